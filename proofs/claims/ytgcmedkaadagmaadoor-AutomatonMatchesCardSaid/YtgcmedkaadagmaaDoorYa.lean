/- Walks: a maker's glyph. -/
import Derived.Test.YtgcmedkaadagmaaDoorTk
import Derived.Test.YtgcmedkaadagmaaDoorY9
import Derived.Laws.BytesArg
namespace Go.Proofs.YtgcmedkaadagmaaDoor
open Go.RowKit Go.Shelf

/-- What glyph leaves. -/
def GlyR (gm : Nat) (w0 : World) (s : MSt) (e : Ending) (w' : World) : Prop := ∃ (A : Option Addr) (c : Nat) (css : List (List Value)) (gs : List Gly), e = .returned (.tuple #[]) ∧ Mk w' gm (s.gl A (s.f.gn + 1) c) ∧ Rg 85 9 EGlb w' w0.heap.size (bl A) A (s.f.gn + 1) c css gs ∧ w0.grownBy w' (some gm)
theorem one_byte {V : World} {nb : Nat} {yb : Int} (kb : Bk V nb 5 #[.int .u8 yb]) : ∀ q, q < 1 → V.cell? ⟨nb, 0 + q, none⟩ = some (.int .u8 ([yb].getD q 0)) := fun q hq => by
  obtain rfl : q = 0 := by omega
  exact bx kb 0 rfl
/-- The pairs of a kind and a class that a glyph may have. -/
theorem pair_at (kn kx q : Nat) (h : q < 5) : ∃ a b : Int, ∀ W : World, Bk W kn 171 #[.int .i64 1, .int .i64 0, .int .i64 1, .int .i64 1, .int .i64 3, .int .i64 0, .int .i64 4, .int .i64 0, .int .i64 2, .int .i64 (kx : Int)] → W.cell? ⟨kn, q * 2, none⟩ = some (.int .i64 a) ∧ W.cell? ⟨kn, q * 2 + 1, none⟩ = some (.int .i64 b) := by
  obtain rfl | rfl | rfl | rfl | rfl : q = 0 ∨ q = 1 ∨ q = 2 ∨ q = 3 ∨ q = 4 := by omega
  all_goals exact ⟨_, _, fun W h => ⟨bx h _ rfl, bx h _ rfl⟩⟩
theorem nine {W : World} {g t : Nat} {a b c d e p q r s : Value} (k : Bk W g t #[a, b, c, d, e, p, q, r, s]) : W.cell? ⟨g, 0, none⟩ = some a ∧ W.cell? ⟨g, 1, none⟩ = some b ∧ W.cell? ⟨g, 2, none⟩ = some c ∧ W.cell? ⟨g, 3, none⟩ = some d ∧ W.cell? ⟨g, 4, none⟩ = some e ∧ W.cell? ⟨g, 5, none⟩ = some p ∧ W.cell? ⟨g, 6, none⟩ = some q ∧ W.cell? ⟨g, 7, none⟩ = some r ∧ W.cell? ⟨g, 8, none⟩ = some s ∧
    W.frozen? ⟨g, 0, none⟩ = false ∧ W.frozen? ⟨g, 1, none⟩ = false ∧ W.frozen? ⟨g, 2, none⟩ = false ∧ W.frozen? ⟨g, 3, none⟩ = false ∧ W.frozen? ⟨g, 4, none⟩ = false ∧ W.frozen? ⟨g, 5, none⟩ = false ∧ W.frozen? ⟨g, 6, none⟩ = false ∧ W.frozen? ⟨g, 7, none⟩ = false ∧ W.frozen? ⟨g, 8, none⟩ = false :=
  ⟨bx k 0 rfl, bx k 1 rfl, bx k 2 rfl, bx k 3 rfl, bx k 4 rfl, bx k 5 rfl, bx k 6 rfl, bx k 7 rfl, bx k 8 rfl, k.frozen 0, k.frozen 1, k.frozen 2, k.frozen 3, k.frozen 4, k.frozen 5, k.frozen 6, k.frozen 7, k.frozen 8⟩
theorem fin0 {w W : World} {gm g r1 r2 : Nat} {sb : ByteArray} {a b c d e p q r s : Value} (k : Bk W g 85 #[a, b, c, d, e, p, q, r, s]) (hu : Up gm w W) (hl : w.heap.size ≤ g) (hg : gm < w.heap.size) :
    Bk (store9g W g (.string (⟨#[103]⟩ ++ sb)) (.int .i64 (IntKind.i64.wrap (100 + IntKind.i64.wrap ((r1 : Int) * 50)))) (.bool ((r2 : Int) == 0)) (.slice none 0 0) (.slice none 0 0) (.slice none 0 0) (.slice none 0 0) (.slice none 0 0) (.slice none 0 0)) g 85 #[.string (⟨#[103]⟩ ++ sb), .int .i64 (IntKind.i64.wrap (100 + IntKind.i64.wrap ((r1 : Int) * 50))), .bool ((r2 : Int) == 0), .slice none 0 0, .slice none 0 0, .slice none 0 0, .slice none 0 0, .slice none 0 0, .slice none 0 0] ∧
    Up gm w (store9g W g (.string (⟨#[103]⟩ ++ sb)) (.int .i64 (IntKind.i64.wrap (100 + IntKind.i64.wrap ((r1 : Int) * 50)))) (.bool ((r2 : Int) == 0)) (.slice none 0 0) (.slice none 0 0) (.slice none 0 0) (.slice none 0 0) (.slice none 0 0) (.slice none 0 0)) := ⟨store9g_bk k _ _ _ _ _ _ _ _ _, hu.set9 hl hg _ _ _ _ _ _ _ _ _⟩
abbrev zGlb : Array Value := #[.string ⟨#[]⟩, .int .i64 0, .bool false, .slice none 0 0, .slice none 0 0, .slice none 0 0, .slice none 0 0, .slice none 0 0, .slice none 0 0]

set_option maxRecDepth 100000 in
set_option maxHeartbeats 40000000 in
theorem bglyph_c (gm i : Nat) (s : MSt) (w0 w : World) (css : List (List Value)) (gs : List Gly) (h : Mk w gm s) (hg : gm < w0.heap.size) (hrow : Rg 85 9 EGlb w w0.heap.size (bl s.f.ga) s.f.ga s.f.gn s.f.gc css gs) (hgr : w0.grownBy w (some gm)) (hi : i ≤ 1000) (h6 : s.f.n6 ≤ 1000) (h7 : s.f.n7 ≤ 1000) (hn : s.f.gn ≤ 1000) : Calls Tryd.prog 42 #[.pointer (some ⟨gm, 0, none⟩), .int .i64 (i : Int)] w (GlyR gm w0 s) := by
  have hgw := h.lt
  have HX := Lib.hid fun (b : Nat) (hb : b ∈ bl s.f.ga) => (show b < w.heap.size from (bl_lt hrow.ow b hb).2)
  have HROW := Lib.hid hrow
  have HGR := Lib.hid hgr
  have HM := Lib.hid fun (W : World) (hu : Up gm w W) => hu.st s h
  have HN := Lib.hid fun (m : Nat) (h0 : 0 < m) (h1 : m ≤ 100000) (W : World) (hu : Up gm w W) => bnext_c gm m s W (hu.st s h) h0 (by omega)
  have HO := Lib.hid fun (W : World) (hu : Up gm w W) => boutline_c gm s W (hu.st s h)
  have HH := Lib.hid fun (n fs : Nat) (hn : n ≤ 1000) (hf : fs ≤ 1000) (W : World) (hu : Up gm w W) => bhint_c gm n fs 6 s W (hu.st s h) hn hf (by omega) (by omega)
  clear h hrow hgr
  obtain ⟨yb, hyb⟩ : ∃ y : Int, IntKind.u8.wrap (IntKind.i64.wrap (97 + (i : Int))) = y := ⟨_, rfl⟩
  obtain ⟨sb, hsb, hsz⟩ : ∃ x, strOfNums [yb] = x ∧ x.size = 1 := ⟨_, rfl, by rw [strOfNums_size]; rfl⟩
  go_enter Tryd.func42, Tryd.ntmps42
  go_upto_region 0 with fail
  go_cut [4] from 10 to 23 (fun gv wx => ∃ (gb : Nat) (nm : ByteArray) (adv : Int) (mk : Bool), gv = .pointer (some ⟨gb, 0, none⟩) ∧ Bk wx gb 85 #[.string nm, .int .i64 adv, .bool mk, .slice none 0 0, .slice none 0 0, .slice none 0 0, .slice none 0 0, .slice none 0 0, .slice none 0 0] ∧ w.heap.size ≤ gb ∧ Up gm w wx)
  case first =>
    have HNX := Lib.hid fun (m : Nat) (h0 : 0 < m) (h1 : m ≤ 100) (W : World) (bW : Up gm w W) => HN.out m h0 (by omega) W bW
    have H19 := Lib.hid fun (W : World) (bW : Up gm w W) => (show Calls Tryd.prog 40 #[.pointer (some ⟨gm, 0, none⟩), .int .i64 19] W (NextR gm 19 W) from HNX.out 19 (by omega) (by omega) W bW)
    have H4 := Lib.hid fun (W : World) (bW : Up gm w W) => (show Calls Tryd.prog 40 #[.pointer (some ⟨gm, 0, none⟩), .int .i64 4] W (NextR gm 4 W) from HNX.out 4 (by omega) (by omega) W bW)
    have HS := Lib.hid fun (W : World) (bW : Up gm w W) => (show Held1 W from held1 _)
    have bb := Up.refl gm w
    refine wp_region_held_drew (S := fun w' => Held1 w') (by kernel_rfl) ?_ (fun hHeld => ?_)
    · exact HS.out _ (bb.drewN 1)
    replace bb := bb.drewN 1
    change Up _ _ w.drew at bb
    generalize hw0 : w.drew = W0 at hHeld bb ⊢
    clear hw0
    refine tkC 0 ?_
    refine tkC 1 ?_
    refine tkC 2 ?_
    refine tkC 6 ?_
    refine tkC 10 ?_
    refine rd3 3 7 14 (fun K hK => ?_) (fun K hK => ?_) (fun K hK => ?_)
    · refine wy ?_
      go_simp
      clear hHeld
      refine hK.out _ _ (held1 _) fun hHeld => ?_
      clear hK K
      have kb := Bk.new W0 5 #[.int .u8 yb]
      have bb2 := bb.alloc (by have := bb.size; omega) (.cells #[.int .u8 yb] 5)
      have hltnb : w.heap.size ≤ W0.heap.size := bb.size
      clear bb
      have bb := bb2
      clear bb2
      obtain ⟨nb, hnb⟩ : ∃ x, W0.heap.size = x := ⟨_, rfl⟩
      rw [hnb] at kb hltnb
      try rw [hnb]
      obtain ⟨V1, hV⟩ : ∃ wN, W0.alloc (.cells #[.int .u8 yb] 5) = wN := ⟨_, rfl⟩
      rw [hV] at kb bb hHeld ⊢
      clear hV hnb
      refine rd3 4 7 14 (fun K hK => ?_) (fun K hK => ?_) (fun K hK => ?_)
      · have hc := run_convert_bytes_arg V1 104 5 Tryd.underlying104 Tryd.underlying5 nb 0 1 1 [yb] rfl (one_byte kb) 9 Tryd.underlying9
        refine wy ?_
        go_simp
        clear hHeld
        refine hK.out _ _ (held1 _) fun hHeld => ?_
        clear hK K
        clear hc
        refine tkC 5 ?_
        refine rd2 7 14 (fun K hK => ?_) (fun K hK => ?_)
        · refine wy ?_
          go_simp
          clear hHeld
          go_at_call 40
          (with_reducible refine (H19.out _ bb).mono ?_)
          rintro e V2 ⟨r1, rfl, hr1, bn⟩
          go_wp2_with fail
          refine hK.out _ _ (held1 _) fun hHeld => ?_
          clear hK K
          replace kb := bn.bk kb (by omega)
          replace bb := bb.trans bn
          clear bn
          refine tkC 8 ?_
          refine tkC 9 ?_
          refine rd2 11 14 (fun K hK => ?_) (fun K hK => ?_)
          · refine wy ?_
            go_simp
            clear hHeld
            go_at_call 40
            (with_reducible refine (H4.out _ bb).mono ?_)
            rintro e V3 ⟨r2, rfl, hr2, bn⟩
            go_wp2_with fail
            refine hK.out _ _ (held1 _) fun hHeld => ?_
            clear hK K
            replace kb := bn.bk kb (by omega)
            replace bb := bb.trans bn
            clear bn
            refine tkC 12 ?_
            refine tkC 13 ?_
            refine rd1 14 fun K hK => ?_
            refine wy ?_
            go_simp
            clear hHeld
            refine hK.out _ _ (held1 _) fun hHeld => ?_
            clear hK K
            replace kb := kb.alloc (.cells zGlb 85)
            have kg := Bk.new V3 85 zGlb
            have bb2 := bb.alloc (by have := bb.size; omega) (.cells zGlb 85)
            have hltgb : w.heap.size ≤ V3.heap.size := bb.size
            clear bb
            have bb := bb2
            clear bb2
            obtain ⟨gb, hgb⟩ : ∃ x, V3.heap.size = x := ⟨_, rfl⟩
            rw [hgb] at kg hltgb
            try rw [hgb]
            obtain ⟨V4, hV⟩ : ∃ wN, V3.alloc (.cells zGlb 85) = wN := ⟨_, rfl⟩
            rw [hV] at kg kb bb hHeld ⊢
            clear hV hgb
            refine rd1 15 fun K hK => ?_
            obtain ⟨g0, g1, g2, g3, g4, g5, g6, g7, g8, z0, z1, z2, z3, z4, z5, z6, z7, z8⟩ := nine kg
            have HF := Lib.hid (fin0 (r1 := r1) (r2 := r2) (sb := sb) kg bb hltgb hgw)
            unfold store9g at HF
            clear kg kb bb
            refine wy ?_
            go_simp
            clear hHeld
            refine hK.out _ _ (held1 _) fun hHeld => ?_
            clear hK K
            clear g0 z0 g1 z1 g2 z2 g3 z3 g4 z4 g5 z5 g6 z6 g7 z7 g8 z8
            refine wpAnyH_done (by kernel_rfl) ?_ _
            clear hHeld HS
            go_wp2_with fail
            go_meet
            exact ⟨gb, _, _, _, rfl, HF.out.1, hltgb, HF.out.2⟩



          · refine wy ?_
            go_simp
            clear hHeld
            refine hK.out _ _ (held1 _) fun hHeld => ?_
            clear hK K
            replace kb := kb.alloc (.cells zGlb 85)
            have kg := Bk.new V2 85 zGlb
            have bb2 := bb.alloc (by have := bb.size; omega) (.cells zGlb 85)
            have hltgb : w.heap.size ≤ V2.heap.size := bb.size
            clear bb
            have bb := bb2
            clear bb2
            obtain ⟨gb, hgb⟩ : ∃ x, V2.heap.size = x := ⟨_, rfl⟩
            rw [hgb] at kg hltgb
            try rw [hgb]
            obtain ⟨V3, hV⟩ : ∃ wN, V2.alloc (.cells zGlb 85) = wN := ⟨_, rfl⟩
            rw [hV] at kg kb bb hHeld ⊢
            clear hV hgb
            refine rd1 11 fun K hK => ?_
            refine wy ?_
            go_simp
            clear hHeld
            go_at_call 40
            (with_reducible refine (H4.out _ bb).mono ?_)
            rintro e V4 ⟨r2, rfl, hr2, bn⟩
            go_wp2_with fail
            refine hK.out _ _ (held1 _) fun hHeld => ?_
            clear hK K
            replace kg := bn.bk kg (by omega)
            replace kb := bn.bk kb (by omega)
            replace bb := bb.trans bn
            clear bn
            refine tkC 12 ?_
            refine tkC 13 ?_
            refine rd1 15 fun K hK => ?_
            obtain ⟨g0, g1, g2, g3, g4, g5, g6, g7, g8, z0, z1, z2, z3, z4, z5, z6, z7, z8⟩ := nine kg
            have HF := Lib.hid (fin0 (r1 := r1) (r2 := r2) (sb := sb) kg bb hltgb hgw)
            unfold store9g at HF
            clear kg kb bb
            refine wy ?_
            go_simp
            clear hHeld
            refine hK.out _ _ (held1 _) fun hHeld => ?_
            clear hK K
            clear g0 z0 g1 z1 g2 z2 g3 z3 g4 z4 g5 z5 g6 z6 g7 z7 g8 z8
            refine wpAnyH_done (by kernel_rfl) ?_ _
            clear hHeld HS
            go_wp2_with fail
            go_meet
            exact ⟨gb, _, _, _, rfl, HF.out.1, hltgb, HF.out.2⟩




        · refine wy ?_
          go_simp
          clear hHeld
          refine hK.out _ _ (held1 _) fun hHeld => ?_
          clear hK K
          replace kb := kb.alloc (.cells zGlb 85)
          have kg := Bk.new V1 85 zGlb
          have bb2 := bb.alloc (by have := bb.size; omega) (.cells zGlb 85)
          have hltgb : w.heap.size ≤ V1.heap.size := bb.size
          clear bb
          have bb := bb2
          clear bb2
          obtain ⟨gb, hgb⟩ : ∃ x, V1.heap.size = x := ⟨_, rfl⟩
          rw [hgb] at kg hltgb
          try rw [hgb]
          obtain ⟨V2, hV⟩ : ∃ wN, V1.alloc (.cells zGlb 85) = wN := ⟨_, rfl⟩
          rw [hV] at kg kb bb hHeld ⊢
          clear hV hgb
          refine rd1 7 fun K hK => ?_
          refine wy ?_
          go_simp
          clear hHeld
          go_at_call 40
          (with_reducible refine (H19.out _ bb).mono ?_)
          rintro e V3 ⟨r1, rfl, hr1, bn⟩
          go_wp2_with fail
          refine hK.out _ _ (held1 _) fun hHeld => ?_
          clear hK K
          replace kg := bn.bk kg (by omega)
          replace kb := bn.bk kb (by omega)
          replace bb := bb.trans bn
          clear bn
          refine tkC 8 ?_
          refine tkC 9 ?_
          refine rd1 11 fun K hK => ?_
          refine wy ?_
          go_simp
          clear hHeld
          go_at_call 40
          (with_reducible refine (H4.out _ bb).mono ?_)
          rintro e V4 ⟨r2, rfl, hr2, bn⟩
          go_wp2_with fail
          refine hK.out _ _ (held1 _) fun hHeld => ?_
          clear hK K
          replace kg := bn.bk kg (by omega)
          replace kb := bn.bk kb (by omega)
          replace bb := bb.trans bn
          clear bn
          refine tkC 12 ?_
          refine tkC 13 ?_
          refine rd1 15 fun K hK => ?_
          obtain ⟨g0, g1, g2, g3, g4, g5, g6, g7, g8, z0, z1, z2, z3, z4, z5, z6, z7, z8⟩ := nine kg
          have HF := Lib.hid (fin0 (r1 := r1) (r2 := r2) (sb := sb) kg bb hltgb hgw)
          unfold store9g at HF
          clear kg kb bb
          refine wy ?_
          go_simp
          clear hHeld
          refine hK.out _ _ (held1 _) fun hHeld => ?_
          clear hK K
          clear g0 z0 g1 z1 g2 z2 g3 z3 g4 z4 g5 z5 g6 z6 g7 z7 g8 z8
          refine wpAnyH_done (by kernel_rfl) ?_ _
          clear hHeld HS
          go_wp2_with fail
          go_meet
          exact ⟨gb, _, _, _, rfl, HF.out.1, hltgb, HF.out.2⟩





      · refine wy ?_
        go_simp
        clear hHeld
        go_at_call 40
        (with_reducible refine (H19.out _ bb).mono ?_)
        rintro e V2 ⟨r1, rfl, hr1, bn⟩
        go_wp2_with fail
        refine hK.out _ _ (held1 _) fun hHeld => ?_
        clear hK K
        replace kb := bn.bk kb (by omega)
        replace bb := bb.trans bn
        clear bn
        refine tkC 8 ?_
        refine tkC 9 ?_
        refine rd3 4 11 14 (fun K hK => ?_) (fun K hK => ?_) (fun K hK => ?_)
        · have hc := run_convert_bytes_arg V2 104 5 Tryd.underlying104 Tryd.underlying5 nb 0 1 1 [yb] rfl (one_byte kb) 9 Tryd.underlying9
          refine wy ?_
          go_simp
          clear hHeld
          refine hK.out _ _ (held1 _) fun hHeld => ?_
          clear hK K
          clear hc
          refine tkC 5 ?_
          refine rd2 11 14 (fun K hK => ?_) (fun K hK => ?_)
          · refine wy ?_
            go_simp
            clear hHeld
            go_at_call 40
            (with_reducible refine (H4.out _ bb).mono ?_)
            rintro e V3 ⟨r2, rfl, hr2, bn⟩
            go_wp2_with fail
            refine hK.out _ _ (held1 _) fun hHeld => ?_
            clear hK K
            replace kb := bn.bk kb (by omega)
            replace bb := bb.trans bn
            clear bn
            refine tkC 12 ?_
            refine tkC 13 ?_
            refine rd1 14 fun K hK => ?_
            refine wy ?_
            go_simp
            clear hHeld
            refine hK.out _ _ (held1 _) fun hHeld => ?_
            clear hK K
            replace kb := kb.alloc (.cells zGlb 85)
            have kg := Bk.new V3 85 zGlb
            have bb2 := bb.alloc (by have := bb.size; omega) (.cells zGlb 85)
            have hltgb : w.heap.size ≤ V3.heap.size := bb.size
            clear bb
            have bb := bb2
            clear bb2
            obtain ⟨gb, hgb⟩ : ∃ x, V3.heap.size = x := ⟨_, rfl⟩
            rw [hgb] at kg hltgb
            try rw [hgb]
            obtain ⟨V4, hV⟩ : ∃ wN, V3.alloc (.cells zGlb 85) = wN := ⟨_, rfl⟩
            rw [hV] at kg kb bb hHeld ⊢
            clear hV hgb
            refine rd1 15 fun K hK => ?_
            obtain ⟨g0, g1, g2, g3, g4, g5, g6, g7, g8, z0, z1, z2, z3, z4, z5, z6, z7, z8⟩ := nine kg
            have HF := Lib.hid (fin0 (r1 := r1) (r2 := r2) (sb := sb) kg bb hltgb hgw)
            unfold store9g at HF
            clear kg kb bb
            refine wy ?_
            go_simp
            clear hHeld
            refine hK.out _ _ (held1 _) fun hHeld => ?_
            clear hK K
            clear g0 z0 g1 z1 g2 z2 g3 z3 g4 z4 g5 z5 g6 z6 g7 z7 g8 z8
            refine wpAnyH_done (by kernel_rfl) ?_ _
            clear hHeld HS
            go_wp2_with fail
            go_meet
            exact ⟨gb, _, _, _, rfl, HF.out.1, hltgb, HF.out.2⟩



          · refine wy ?_
            go_simp
            clear hHeld
            refine hK.out _ _ (held1 _) fun hHeld => ?_
            clear hK K
            replace kb := kb.alloc (.cells zGlb 85)
            have kg := Bk.new V2 85 zGlb
            have bb2 := bb.alloc (by have := bb.size; omega) (.cells zGlb 85)
            have hltgb : w.heap.size ≤ V2.heap.size := bb.size
            clear bb
            have bb := bb2
            clear bb2
            obtain ⟨gb, hgb⟩ : ∃ x, V2.heap.size = x := ⟨_, rfl⟩
            rw [hgb] at kg hltgb
            try rw [hgb]
            obtain ⟨V3, hV⟩ : ∃ wN, V2.alloc (.cells zGlb 85) = wN := ⟨_, rfl⟩
            rw [hV] at kg kb bb hHeld ⊢
            clear hV hgb
            refine rd1 11 fun K hK => ?_
            refine wy ?_
            go_simp
            clear hHeld
            go_at_call 40
            (with_reducible refine (H4.out _ bb).mono ?_)
            rintro e V4 ⟨r2, rfl, hr2, bn⟩
            go_wp2_with fail
            refine hK.out _ _ (held1 _) fun hHeld => ?_
            clear hK K
            replace kg := bn.bk kg (by omega)
            replace kb := bn.bk kb (by omega)
            replace bb := bb.trans bn
            clear bn
            refine tkC 12 ?_
            refine tkC 13 ?_
            refine rd1 15 fun K hK => ?_
            obtain ⟨g0, g1, g2, g3, g4, g5, g6, g7, g8, z0, z1, z2, z3, z4, z5, z6, z7, z8⟩ := nine kg
            have HF := Lib.hid (fin0 (r1 := r1) (r2 := r2) (sb := sb) kg bb hltgb hgw)
            unfold store9g at HF
            clear kg kb bb
            refine wy ?_
            go_simp
            clear hHeld
            refine hK.out _ _ (held1 _) fun hHeld => ?_
            clear hK K
            clear g0 z0 g1 z1 g2 z2 g3 z3 g4 z4 g5 z5 g6 z6 g7 z7 g8 z8
            refine wpAnyH_done (by kernel_rfl) ?_ _
            clear hHeld HS
            go_wp2_with fail
            go_meet
            exact ⟨gb, _, _, _, rfl, HF.out.1, hltgb, HF.out.2⟩




        · refine wy ?_
          go_simp
          clear hHeld
          go_at_call 40
          (with_reducible refine (H4.out _ bb).mono ?_)
          rintro e V3 ⟨r2, rfl, hr2, bn⟩
          go_wp2_with fail
          refine hK.out _ _ (held1 _) fun hHeld => ?_
          clear hK K
          replace kb := bn.bk kb (by omega)
          replace bb := bb.trans bn
          clear bn
          refine tkC 12 ?_
          refine rd2 4 14 (fun K hK => ?_) (fun K hK => ?_)
          · have hc := run_convert_bytes_arg V3 104 5 Tryd.underlying104 Tryd.underlying5 nb 0 1 1 [yb] rfl (one_byte kb) 9 Tryd.underlying9
            refine wy ?_
            go_simp
            clear hHeld
            refine hK.out _ _ (held1 _) fun hHeld => ?_
            clear hK K
            clear hc
            refine tkC 5 ?_
            refine tkC 13 ?_
            refine rd1 14 fun K hK => ?_
            refine wy ?_
            go_simp
            clear hHeld
            refine hK.out _ _ (held1 _) fun hHeld => ?_
            clear hK K
            replace kb := kb.alloc (.cells zGlb 85)
            have kg := Bk.new V3 85 zGlb
            have bb2 := bb.alloc (by have := bb.size; omega) (.cells zGlb 85)
            have hltgb : w.heap.size ≤ V3.heap.size := bb.size
            clear bb
            have bb := bb2
            clear bb2
            obtain ⟨gb, hgb⟩ : ∃ x, V3.heap.size = x := ⟨_, rfl⟩
            rw [hgb] at kg hltgb
            try rw [hgb]
            obtain ⟨V4, hV⟩ : ∃ wN, V3.alloc (.cells zGlb 85) = wN := ⟨_, rfl⟩
            rw [hV] at kg kb bb hHeld ⊢
            clear hV hgb
            refine rd1 15 fun K hK => ?_
            obtain ⟨g0, g1, g2, g3, g4, g5, g6, g7, g8, z0, z1, z2, z3, z4, z5, z6, z7, z8⟩ := nine kg
            have HF := Lib.hid (fin0 (r1 := r1) (r2 := r2) (sb := sb) kg bb hltgb hgw)
            unfold store9g at HF
            clear kg kb bb
            refine wy ?_
            go_simp
            clear hHeld
            refine hK.out _ _ (held1 _) fun hHeld => ?_
            clear hK K
            clear g0 z0 g1 z1 g2 z2 g3 z3 g4 z4 g5 z5 g6 z6 g7 z7 g8 z8
            refine wpAnyH_done (by kernel_rfl) ?_ _
            clear hHeld HS
            go_wp2_with fail
            go_meet
            exact ⟨gb, _, _, _, rfl, HF.out.1, hltgb, HF.out.2⟩



          · refine wy ?_
            go_simp
            clear hHeld
            refine hK.out _ _ (held1 _) fun hHeld => ?_
            clear hK K
            replace kb := kb.alloc (.cells zGlb 85)
            have kg := Bk.new V3 85 zGlb
            have bb2 := bb.alloc (by have := bb.size; omega) (.cells zGlb 85)
            have hltgb : w.heap.size ≤ V3.heap.size := bb.size
            clear bb
            have bb := bb2
            clear bb2
            obtain ⟨gb, hgb⟩ : ∃ x, V3.heap.size = x := ⟨_, rfl⟩
            rw [hgb] at kg hltgb
            try rw [hgb]
            obtain ⟨V4, hV⟩ : ∃ wN, V3.alloc (.cells zGlb 85) = wN := ⟨_, rfl⟩
            rw [hV] at kg kb bb hHeld ⊢
            clear hV hgb
            refine rd1 4 fun K hK => ?_
            have hc := run_convert_bytes_arg V4 104 5 Tryd.underlying104 Tryd.underlying5 nb 0 1 1 [yb] rfl (one_byte kb) 9 Tryd.underlying9
            refine wy ?_
            go_simp
            clear hHeld
            refine hK.out _ _ (held1 _) fun hHeld => ?_
            clear hK K
            clear hc
            refine tkC 5 ?_
            refine tkC 13 ?_
            refine rd1 15 fun K hK => ?_
            obtain ⟨g0, g1, g2, g3, g4, g5, g6, g7, g8, z0, z1, z2, z3, z4, z5, z6, z7, z8⟩ := nine kg
            have HF := Lib.hid (fin0 (r1 := r1) (r2 := r2) (sb := sb) kg bb hltgb hgw)
            unfold store9g at HF
            clear kg kb bb
            refine wy ?_
            go_simp
            clear hHeld
            refine hK.out _ _ (held1 _) fun hHeld => ?_
            clear hK K
            clear g0 z0 g1 z1 g2 z2 g3 z3 g4 z4 g5 z5 g6 z6 g7 z7 g8 z8
            refine wpAnyH_done (by kernel_rfl) ?_ _
            clear hHeld HS
            go_wp2_with fail
            go_meet
            exact ⟨gb, _, _, _, rfl, HF.out.1, hltgb, HF.out.2⟩




        · refine wy ?_
          go_simp
          clear hHeld
          refine hK.out _ _ (held1 _) fun hHeld => ?_
          clear hK K
          replace kb := kb.alloc (.cells zGlb 85)
          have kg := Bk.new V2 85 zGlb
          have bb2 := bb.alloc (by have := bb.size; omega) (.cells zGlb 85)
          have hltgb : w.heap.size ≤ V2.heap.size := bb.size
          clear bb
          have bb := bb2
          clear bb2
          obtain ⟨gb, hgb⟩ : ∃ x, V2.heap.size = x := ⟨_, rfl⟩
          rw [hgb] at kg hltgb
          try rw [hgb]
          obtain ⟨V3, hV⟩ : ∃ wN, V2.alloc (.cells zGlb 85) = wN := ⟨_, rfl⟩
          rw [hV] at kg kb bb hHeld ⊢
          clear hV hgb
          refine rd2 4 11 (fun K hK => ?_) (fun K hK => ?_)
          · have hc := run_convert_bytes_arg V3 104 5 Tryd.underlying104 Tryd.underlying5 nb 0 1 1 [yb] rfl (one_byte kb) 9 Tryd.underlying9
            refine wy ?_
            go_simp
            clear hHeld
            refine hK.out _ _ (held1 _) fun hHeld => ?_
            clear hK K
            clear hc
            refine tkC 5 ?_
            refine rd1 11 fun K hK => ?_
            refine wy ?_
            go_simp
            clear hHeld
            go_at_call 40
            (with_reducible refine (H4.out _ bb).mono ?_)
            rintro e V4 ⟨r2, rfl, hr2, bn⟩
            go_wp2_with fail
            refine hK.out _ _ (held1 _) fun hHeld => ?_
            clear hK K
            replace kg := bn.bk kg (by omega)
            replace kb := bn.bk kb (by omega)
            replace bb := bb.trans bn
            clear bn
            refine tkC 12 ?_
            refine tkC 13 ?_
            refine rd1 15 fun K hK => ?_
            obtain ⟨g0, g1, g2, g3, g4, g5, g6, g7, g8, z0, z1, z2, z3, z4, z5, z6, z7, z8⟩ := nine kg
            have HF := Lib.hid (fin0 (r1 := r1) (r2 := r2) (sb := sb) kg bb hltgb hgw)
            unfold store9g at HF
            clear kg kb bb
            refine wy ?_
            go_simp
            clear hHeld
            refine hK.out _ _ (held1 _) fun hHeld => ?_
            clear hK K
            clear g0 z0 g1 z1 g2 z2 g3 z3 g4 z4 g5 z5 g6 z6 g7 z7 g8 z8
            refine wpAnyH_done (by kernel_rfl) ?_ _
            clear hHeld HS
            go_wp2_with fail
            go_meet
            exact ⟨gb, _, _, _, rfl, HF.out.1, hltgb, HF.out.2⟩



          · refine wy ?_
            go_simp
            clear hHeld
            go_at_call 40
            (with_reducible refine (H4.out _ bb).mono ?_)
            rintro e V4 ⟨r2, rfl, hr2, bn⟩
            go_wp2_with fail
            refine hK.out _ _ (held1 _) fun hHeld => ?_
            clear hK K
            replace kg := bn.bk kg (by omega)
            replace kb := bn.bk kb (by omega)
            replace bb := bb.trans bn
            clear bn
            refine tkC 12 ?_
            refine rd1 4 fun K hK => ?_
            have hc := run_convert_bytes_arg V4 104 5 Tryd.underlying104 Tryd.underlying5 nb 0 1 1 [yb] rfl (one_byte kb) 9 Tryd.underlying9
            refine wy ?_
            go_simp
            clear hHeld
            refine hK.out _ _ (held1 _) fun hHeld => ?_
            clear hK K
            clear hc
            refine tkC 5 ?_
            refine tkC 13 ?_
            refine rd1 15 fun K hK => ?_
            obtain ⟨g0, g1, g2, g3, g4, g5, g6, g7, g8, z0, z1, z2, z3, z4, z5, z6, z7, z8⟩ := nine kg
            have HF := Lib.hid (fin0 (r1 := r1) (r2 := r2) (sb := sb) kg bb hltgb hgw)
            unfold store9g at HF
            clear kg kb bb
            refine wy ?_
            go_simp
            clear hHeld
            refine hK.out _ _ (held1 _) fun hHeld => ?_
            clear hK K
            clear g0 z0 g1 z1 g2 z2 g3 z3 g4 z4 g5 z5 g6 z6 g7 z7 g8 z8
            refine wpAnyH_done (by kernel_rfl) ?_ _
            clear hHeld HS
            go_wp2_with fail
            go_meet
            exact ⟨gb, _, _, _, rfl, HF.out.1, hltgb, HF.out.2⟩





      · refine wy ?_
        go_simp
        clear hHeld
        refine hK.out _ _ (held1 _) fun hHeld => ?_
        clear hK K
        replace kb := kb.alloc (.cells zGlb 85)
        have kg := Bk.new V1 85 zGlb
        have bb2 := bb.alloc (by have := bb.size; omega) (.cells zGlb 85)
        have hltgb : w.heap.size ≤ V1.heap.size := bb.size
        clear bb
        have bb := bb2
        clear bb2
        obtain ⟨gb, hgb⟩ : ∃ x, V1.heap.size = x := ⟨_, rfl⟩
        rw [hgb] at kg hltgb
        try rw [hgb]
        obtain ⟨V2, hV⟩ : ∃ wN, V1.alloc (.cells zGlb 85) = wN := ⟨_, rfl⟩
        rw [hV] at kg kb bb hHeld ⊢
        clear hV hgb
        refine rd2 4 7 (fun K hK => ?_) (fun K hK => ?_)
        · have hc := run_convert_bytes_arg V2 104 5 Tryd.underlying104 Tryd.underlying5 nb 0 1 1 [yb] rfl (one_byte kb) 9 Tryd.underlying9
          refine wy ?_
          go_simp
          clear hHeld
          refine hK.out _ _ (held1 _) fun hHeld => ?_
          clear hK K
          clear hc
          refine tkC 5 ?_
          refine rd1 7 fun K hK => ?_
          refine wy ?_
          go_simp
          clear hHeld
          go_at_call 40
          (with_reducible refine (H19.out _ bb).mono ?_)
          rintro e V3 ⟨r1, rfl, hr1, bn⟩
          go_wp2_with fail
          refine hK.out _ _ (held1 _) fun hHeld => ?_
          clear hK K
          replace kg := bn.bk kg (by omega)
          replace kb := bn.bk kb (by omega)
          replace bb := bb.trans bn
          clear bn
          refine tkC 8 ?_
          refine tkC 9 ?_
          refine rd1 11 fun K hK => ?_
          refine wy ?_
          go_simp
          clear hHeld
          go_at_call 40
          (with_reducible refine (H4.out _ bb).mono ?_)
          rintro e V4 ⟨r2, rfl, hr2, bn⟩
          go_wp2_with fail
          refine hK.out _ _ (held1 _) fun hHeld => ?_
          clear hK K
          replace kg := bn.bk kg (by omega)
          replace kb := bn.bk kb (by omega)
          replace bb := bb.trans bn
          clear bn
          refine tkC 12 ?_
          refine tkC 13 ?_
          refine rd1 15 fun K hK => ?_
          obtain ⟨g0, g1, g2, g3, g4, g5, g6, g7, g8, z0, z1, z2, z3, z4, z5, z6, z7, z8⟩ := nine kg
          have HF := Lib.hid (fin0 (r1 := r1) (r2 := r2) (sb := sb) kg bb hltgb hgw)
          unfold store9g at HF
          clear kg kb bb
          refine wy ?_
          go_simp
          clear hHeld
          refine hK.out _ _ (held1 _) fun hHeld => ?_
          clear hK K
          clear g0 z0 g1 z1 g2 z2 g3 z3 g4 z4 g5 z5 g6 z6 g7 z7 g8 z8
          refine wpAnyH_done (by kernel_rfl) ?_ _
          clear hHeld HS
          go_wp2_with fail
          go_meet
          exact ⟨gb, _, _, _, rfl, HF.out.1, hltgb, HF.out.2⟩




        · refine wy ?_
          go_simp
          clear hHeld
          go_at_call 40
          (with_reducible refine (H19.out _ bb).mono ?_)
          rintro e V3 ⟨r1, rfl, hr1, bn⟩
          go_wp2_with fail
          refine hK.out _ _ (held1 _) fun hHeld => ?_
          clear hK K
          replace kg := bn.bk kg (by omega)
          replace kb := bn.bk kb (by omega)
          replace bb := bb.trans bn
          clear bn
          refine tkC 8 ?_
          refine tkC 9 ?_
          refine rd2 4 11 (fun K hK => ?_) (fun K hK => ?_)
          · have hc := run_convert_bytes_arg V3 104 5 Tryd.underlying104 Tryd.underlying5 nb 0 1 1 [yb] rfl (one_byte kb) 9 Tryd.underlying9
            refine wy ?_
            go_simp
            clear hHeld
            refine hK.out _ _ (held1 _) fun hHeld => ?_
            clear hK K
            clear hc
            refine tkC 5 ?_
            refine rd1 11 fun K hK => ?_
            refine wy ?_
            go_simp
            clear hHeld
            go_at_call 40
            (with_reducible refine (H4.out _ bb).mono ?_)
            rintro e V4 ⟨r2, rfl, hr2, bn⟩
            go_wp2_with fail
            refine hK.out _ _ (held1 _) fun hHeld => ?_
            clear hK K
            replace kg := bn.bk kg (by omega)
            replace kb := bn.bk kb (by omega)
            replace bb := bb.trans bn
            clear bn
            refine tkC 12 ?_
            refine tkC 13 ?_
            refine rd1 15 fun K hK => ?_
            obtain ⟨g0, g1, g2, g3, g4, g5, g6, g7, g8, z0, z1, z2, z3, z4, z5, z6, z7, z8⟩ := nine kg
            have HF := Lib.hid (fin0 (r1 := r1) (r2 := r2) (sb := sb) kg bb hltgb hgw)
            unfold store9g at HF
            clear kg kb bb
            refine wy ?_
            go_simp
            clear hHeld
            refine hK.out _ _ (held1 _) fun hHeld => ?_
            clear hK K
            clear g0 z0 g1 z1 g2 z2 g3 z3 g4 z4 g5 z5 g6 z6 g7 z7 g8 z8
            refine wpAnyH_done (by kernel_rfl) ?_ _
            clear hHeld HS
            go_wp2_with fail
            go_meet
            exact ⟨gb, _, _, _, rfl, HF.out.1, hltgb, HF.out.2⟩



          · refine wy ?_
            go_simp
            clear hHeld
            go_at_call 40
            (with_reducible refine (H4.out _ bb).mono ?_)
            rintro e V4 ⟨r2, rfl, hr2, bn⟩
            go_wp2_with fail
            refine hK.out _ _ (held1 _) fun hHeld => ?_
            clear hK K
            replace kg := bn.bk kg (by omega)
            replace kb := bn.bk kb (by omega)
            replace bb := bb.trans bn
            clear bn
            refine tkC 12 ?_
            refine rd1 4 fun K hK => ?_
            have hc := run_convert_bytes_arg V4 104 5 Tryd.underlying104 Tryd.underlying5 nb 0 1 1 [yb] rfl (one_byte kb) 9 Tryd.underlying9
            refine wy ?_
            go_simp
            clear hHeld
            refine hK.out _ _ (held1 _) fun hHeld => ?_
            clear hK K
            clear hc
            refine tkC 5 ?_
            refine tkC 13 ?_
            refine rd1 15 fun K hK => ?_
            obtain ⟨g0, g1, g2, g3, g4, g5, g6, g7, g8, z0, z1, z2, z3, z4, z5, z6, z7, z8⟩ := nine kg
            have HF := Lib.hid (fin0 (r1 := r1) (r2 := r2) (sb := sb) kg bb hltgb hgw)
            unfold store9g at HF
            clear kg kb bb
            refine wy ?_
            go_simp
            clear hHeld
            refine hK.out _ _ (held1 _) fun hHeld => ?_
            clear hK K
            clear g0 z0 g1 z1 g2 z2 g3 z3 g4 z4 g5 z5 g6 z6 g7 z7 g8 z8
            refine wpAnyH_done (by kernel_rfl) ?_ _
            clear hHeld HS
            go_wp2_with fail
            go_meet
            exact ⟨gb, _, _, _, rfl, HF.out.1, hltgb, HF.out.2⟩






    · refine wy ?_
      go_simp
      clear hHeld
      go_at_call 40
      (with_reducible refine (H19.out _ bb).mono ?_)
      rintro e V1 ⟨r1, rfl, hr1, bn⟩
      go_wp2_with fail
      refine hK.out _ _ (held1 _) fun hHeld => ?_
      clear hK K
      replace bb := bb.trans bn
      clear bn
      refine tkC 8 ?_
      refine tkC 9 ?_
      refine rd3 3 11 14 (fun K hK => ?_) (fun K hK => ?_) (fun K hK => ?_)
      · refine wy ?_
        go_simp
        clear hHeld
        refine hK.out _ _ (held1 _) fun hHeld => ?_
        clear hK K
        have kb := Bk.new V1 5 #[.int .u8 yb]
        have bb2 := bb.alloc (by have := bb.size; omega) (.cells #[.int .u8 yb] 5)
        have hltnb : w.heap.size ≤ V1.heap.size := bb.size
        clear bb
        have bb := bb2
        clear bb2
        obtain ⟨nb, hnb⟩ : ∃ x, V1.heap.size = x := ⟨_, rfl⟩
        rw [hnb] at kb hltnb
        try rw [hnb]
        obtain ⟨V2, hV⟩ : ∃ wN, V1.alloc (.cells #[.int .u8 yb] 5) = wN := ⟨_, rfl⟩
        rw [hV] at kb bb hHeld ⊢
        clear hV hnb
        refine rd3 4 11 14 (fun K hK => ?_) (fun K hK => ?_) (fun K hK => ?_)
        · have hc := run_convert_bytes_arg V2 104 5 Tryd.underlying104 Tryd.underlying5 nb 0 1 1 [yb] rfl (one_byte kb) 9 Tryd.underlying9
          refine wy ?_
          go_simp
          clear hHeld
          refine hK.out _ _ (held1 _) fun hHeld => ?_
          clear hK K
          clear hc
          refine tkC 5 ?_
          refine rd2 11 14 (fun K hK => ?_) (fun K hK => ?_)
          · refine wy ?_
            go_simp
            clear hHeld
            go_at_call 40
            (with_reducible refine (H4.out _ bb).mono ?_)
            rintro e V3 ⟨r2, rfl, hr2, bn⟩
            go_wp2_with fail
            refine hK.out _ _ (held1 _) fun hHeld => ?_
            clear hK K
            replace kb := bn.bk kb (by omega)
            replace bb := bb.trans bn
            clear bn
            refine tkC 12 ?_
            refine tkC 13 ?_
            refine rd1 14 fun K hK => ?_
            refine wy ?_
            go_simp
            clear hHeld
            refine hK.out _ _ (held1 _) fun hHeld => ?_
            clear hK K
            replace kb := kb.alloc (.cells zGlb 85)
            have kg := Bk.new V3 85 zGlb
            have bb2 := bb.alloc (by have := bb.size; omega) (.cells zGlb 85)
            have hltgb : w.heap.size ≤ V3.heap.size := bb.size
            clear bb
            have bb := bb2
            clear bb2
            obtain ⟨gb, hgb⟩ : ∃ x, V3.heap.size = x := ⟨_, rfl⟩
            rw [hgb] at kg hltgb
            try rw [hgb]
            obtain ⟨V4, hV⟩ : ∃ wN, V3.alloc (.cells zGlb 85) = wN := ⟨_, rfl⟩
            rw [hV] at kg kb bb hHeld ⊢
            clear hV hgb
            refine rd1 15 fun K hK => ?_
            obtain ⟨g0, g1, g2, g3, g4, g5, g6, g7, g8, z0, z1, z2, z3, z4, z5, z6, z7, z8⟩ := nine kg
            have HF := Lib.hid (fin0 (r1 := r1) (r2 := r2) (sb := sb) kg bb hltgb hgw)
            unfold store9g at HF
            clear kg kb bb
            refine wy ?_
            go_simp
            clear hHeld
            refine hK.out _ _ (held1 _) fun hHeld => ?_
            clear hK K
            clear g0 z0 g1 z1 g2 z2 g3 z3 g4 z4 g5 z5 g6 z6 g7 z7 g8 z8
            refine wpAnyH_done (by kernel_rfl) ?_ _
            clear hHeld HS
            go_wp2_with fail
            go_meet
            exact ⟨gb, _, _, _, rfl, HF.out.1, hltgb, HF.out.2⟩



          · refine wy ?_
            go_simp
            clear hHeld
            refine hK.out _ _ (held1 _) fun hHeld => ?_
            clear hK K
            replace kb := kb.alloc (.cells zGlb 85)
            have kg := Bk.new V2 85 zGlb
            have bb2 := bb.alloc (by have := bb.size; omega) (.cells zGlb 85)
            have hltgb : w.heap.size ≤ V2.heap.size := bb.size
            clear bb
            have bb := bb2
            clear bb2
            obtain ⟨gb, hgb⟩ : ∃ x, V2.heap.size = x := ⟨_, rfl⟩
            rw [hgb] at kg hltgb
            try rw [hgb]
            obtain ⟨V3, hV⟩ : ∃ wN, V2.alloc (.cells zGlb 85) = wN := ⟨_, rfl⟩
            rw [hV] at kg kb bb hHeld ⊢
            clear hV hgb
            refine rd1 11 fun K hK => ?_
            refine wy ?_
            go_simp
            clear hHeld
            go_at_call 40
            (with_reducible refine (H4.out _ bb).mono ?_)
            rintro e V4 ⟨r2, rfl, hr2, bn⟩
            go_wp2_with fail
            refine hK.out _ _ (held1 _) fun hHeld => ?_
            clear hK K
            replace kg := bn.bk kg (by omega)
            replace kb := bn.bk kb (by omega)
            replace bb := bb.trans bn
            clear bn
            refine tkC 12 ?_
            refine tkC 13 ?_
            refine rd1 15 fun K hK => ?_
            obtain ⟨g0, g1, g2, g3, g4, g5, g6, g7, g8, z0, z1, z2, z3, z4, z5, z6, z7, z8⟩ := nine kg
            have HF := Lib.hid (fin0 (r1 := r1) (r2 := r2) (sb := sb) kg bb hltgb hgw)
            unfold store9g at HF
            clear kg kb bb
            refine wy ?_
            go_simp
            clear hHeld
            refine hK.out _ _ (held1 _) fun hHeld => ?_
            clear hK K
            clear g0 z0 g1 z1 g2 z2 g3 z3 g4 z4 g5 z5 g6 z6 g7 z7 g8 z8
            refine wpAnyH_done (by kernel_rfl) ?_ _
            clear hHeld HS
            go_wp2_with fail
            go_meet
            exact ⟨gb, _, _, _, rfl, HF.out.1, hltgb, HF.out.2⟩




        · refine wy ?_
          go_simp
          clear hHeld
          go_at_call 40
          (with_reducible refine (H4.out _ bb).mono ?_)
          rintro e V3 ⟨r2, rfl, hr2, bn⟩
          go_wp2_with fail
          refine hK.out _ _ (held1 _) fun hHeld => ?_
          clear hK K
          replace kb := bn.bk kb (by omega)
          replace bb := bb.trans bn
          clear bn
          refine tkC 12 ?_
          refine rd2 4 14 (fun K hK => ?_) (fun K hK => ?_)
          · have hc := run_convert_bytes_arg V3 104 5 Tryd.underlying104 Tryd.underlying5 nb 0 1 1 [yb] rfl (one_byte kb) 9 Tryd.underlying9
            refine wy ?_
            go_simp
            clear hHeld
            refine hK.out _ _ (held1 _) fun hHeld => ?_
            clear hK K
            clear hc
            refine tkC 5 ?_
            refine tkC 13 ?_
            refine rd1 14 fun K hK => ?_
            refine wy ?_
            go_simp
            clear hHeld
            refine hK.out _ _ (held1 _) fun hHeld => ?_
            clear hK K
            replace kb := kb.alloc (.cells zGlb 85)
            have kg := Bk.new V3 85 zGlb
            have bb2 := bb.alloc (by have := bb.size; omega) (.cells zGlb 85)
            have hltgb : w.heap.size ≤ V3.heap.size := bb.size
            clear bb
            have bb := bb2
            clear bb2
            obtain ⟨gb, hgb⟩ : ∃ x, V3.heap.size = x := ⟨_, rfl⟩
            rw [hgb] at kg hltgb
            try rw [hgb]
            obtain ⟨V4, hV⟩ : ∃ wN, V3.alloc (.cells zGlb 85) = wN := ⟨_, rfl⟩
            rw [hV] at kg kb bb hHeld ⊢
            clear hV hgb
            refine rd1 15 fun K hK => ?_
            obtain ⟨g0, g1, g2, g3, g4, g5, g6, g7, g8, z0, z1, z2, z3, z4, z5, z6, z7, z8⟩ := nine kg
            have HF := Lib.hid (fin0 (r1 := r1) (r2 := r2) (sb := sb) kg bb hltgb hgw)
            unfold store9g at HF
            clear kg kb bb
            refine wy ?_
            go_simp
            clear hHeld
            refine hK.out _ _ (held1 _) fun hHeld => ?_
            clear hK K
            clear g0 z0 g1 z1 g2 z2 g3 z3 g4 z4 g5 z5 g6 z6 g7 z7 g8 z8
            refine wpAnyH_done (by kernel_rfl) ?_ _
            clear hHeld HS
            go_wp2_with fail
            go_meet
            exact ⟨gb, _, _, _, rfl, HF.out.1, hltgb, HF.out.2⟩



          · refine wy ?_
            go_simp
            clear hHeld
            refine hK.out _ _ (held1 _) fun hHeld => ?_
            clear hK K
            replace kb := kb.alloc (.cells zGlb 85)
            have kg := Bk.new V3 85 zGlb
            have bb2 := bb.alloc (by have := bb.size; omega) (.cells zGlb 85)
            have hltgb : w.heap.size ≤ V3.heap.size := bb.size
            clear bb
            have bb := bb2
            clear bb2
            obtain ⟨gb, hgb⟩ : ∃ x, V3.heap.size = x := ⟨_, rfl⟩
            rw [hgb] at kg hltgb
            try rw [hgb]
            obtain ⟨V4, hV⟩ : ∃ wN, V3.alloc (.cells zGlb 85) = wN := ⟨_, rfl⟩
            rw [hV] at kg kb bb hHeld ⊢
            clear hV hgb
            refine rd1 4 fun K hK => ?_
            have hc := run_convert_bytes_arg V4 104 5 Tryd.underlying104 Tryd.underlying5 nb 0 1 1 [yb] rfl (one_byte kb) 9 Tryd.underlying9
            refine wy ?_
            go_simp
            clear hHeld
            refine hK.out _ _ (held1 _) fun hHeld => ?_
            clear hK K
            clear hc
            refine tkC 5 ?_
            refine tkC 13 ?_
            refine rd1 15 fun K hK => ?_
            obtain ⟨g0, g1, g2, g3, g4, g5, g6, g7, g8, z0, z1, z2, z3, z4, z5, z6, z7, z8⟩ := nine kg
            have HF := Lib.hid (fin0 (r1 := r1) (r2 := r2) (sb := sb) kg bb hltgb hgw)
            unfold store9g at HF
            clear kg kb bb
            refine wy ?_
            go_simp
            clear hHeld
            refine hK.out _ _ (held1 _) fun hHeld => ?_
            clear hK K
            clear g0 z0 g1 z1 g2 z2 g3 z3 g4 z4 g5 z5 g6 z6 g7 z7 g8 z8
            refine wpAnyH_done (by kernel_rfl) ?_ _
            clear hHeld HS
            go_wp2_with fail
            go_meet
            exact ⟨gb, _, _, _, rfl, HF.out.1, hltgb, HF.out.2⟩




        · refine wy ?_
          go_simp
          clear hHeld
          refine hK.out _ _ (held1 _) fun hHeld => ?_
          clear hK K
          replace kb := kb.alloc (.cells zGlb 85)
          have kg := Bk.new V2 85 zGlb
          have bb2 := bb.alloc (by have := bb.size; omega) (.cells zGlb 85)
          have hltgb : w.heap.size ≤ V2.heap.size := bb.size
          clear bb
          have bb := bb2
          clear bb2
          obtain ⟨gb, hgb⟩ : ∃ x, V2.heap.size = x := ⟨_, rfl⟩
          rw [hgb] at kg hltgb
          try rw [hgb]
          obtain ⟨V3, hV⟩ : ∃ wN, V2.alloc (.cells zGlb 85) = wN := ⟨_, rfl⟩
          rw [hV] at kg kb bb hHeld ⊢
          clear hV hgb
          refine rd2 4 11 (fun K hK => ?_) (fun K hK => ?_)
          · have hc := run_convert_bytes_arg V3 104 5 Tryd.underlying104 Tryd.underlying5 nb 0 1 1 [yb] rfl (one_byte kb) 9 Tryd.underlying9
            refine wy ?_
            go_simp
            clear hHeld
            refine hK.out _ _ (held1 _) fun hHeld => ?_
            clear hK K
            clear hc
            refine tkC 5 ?_
            refine rd1 11 fun K hK => ?_
            refine wy ?_
            go_simp
            clear hHeld
            go_at_call 40
            (with_reducible refine (H4.out _ bb).mono ?_)
            rintro e V4 ⟨r2, rfl, hr2, bn⟩
            go_wp2_with fail
            refine hK.out _ _ (held1 _) fun hHeld => ?_
            clear hK K
            replace kg := bn.bk kg (by omega)
            replace kb := bn.bk kb (by omega)
            replace bb := bb.trans bn
            clear bn
            refine tkC 12 ?_
            refine tkC 13 ?_
            refine rd1 15 fun K hK => ?_
            obtain ⟨g0, g1, g2, g3, g4, g5, g6, g7, g8, z0, z1, z2, z3, z4, z5, z6, z7, z8⟩ := nine kg
            have HF := Lib.hid (fin0 (r1 := r1) (r2 := r2) (sb := sb) kg bb hltgb hgw)
            unfold store9g at HF
            clear kg kb bb
            refine wy ?_
            go_simp
            clear hHeld
            refine hK.out _ _ (held1 _) fun hHeld => ?_
            clear hK K
            clear g0 z0 g1 z1 g2 z2 g3 z3 g4 z4 g5 z5 g6 z6 g7 z7 g8 z8
            refine wpAnyH_done (by kernel_rfl) ?_ _
            clear hHeld HS
            go_wp2_with fail
            go_meet
            exact ⟨gb, _, _, _, rfl, HF.out.1, hltgb, HF.out.2⟩



          · refine wy ?_
            go_simp
            clear hHeld
            go_at_call 40
            (with_reducible refine (H4.out _ bb).mono ?_)
            rintro e V4 ⟨r2, rfl, hr2, bn⟩
            go_wp2_with fail
            refine hK.out _ _ (held1 _) fun hHeld => ?_
            clear hK K
            replace kg := bn.bk kg (by omega)
            replace kb := bn.bk kb (by omega)
            replace bb := bb.trans bn
            clear bn
            refine tkC 12 ?_
            refine rd1 4 fun K hK => ?_
            have hc := run_convert_bytes_arg V4 104 5 Tryd.underlying104 Tryd.underlying5 nb 0 1 1 [yb] rfl (one_byte kb) 9 Tryd.underlying9
            refine wy ?_
            go_simp
            clear hHeld
            refine hK.out _ _ (held1 _) fun hHeld => ?_
            clear hK K
            clear hc
            refine tkC 5 ?_
            refine tkC 13 ?_
            refine rd1 15 fun K hK => ?_
            obtain ⟨g0, g1, g2, g3, g4, g5, g6, g7, g8, z0, z1, z2, z3, z4, z5, z6, z7, z8⟩ := nine kg
            have HF := Lib.hid (fin0 (r1 := r1) (r2 := r2) (sb := sb) kg bb hltgb hgw)
            unfold store9g at HF
            clear kg kb bb
            refine wy ?_
            go_simp
            clear hHeld
            refine hK.out _ _ (held1 _) fun hHeld => ?_
            clear hK K
            clear g0 z0 g1 z1 g2 z2 g3 z3 g4 z4 g5 z5 g6 z6 g7 z7 g8 z8
            refine wpAnyH_done (by kernel_rfl) ?_ _
            clear hHeld HS
            go_wp2_with fail
            go_meet
            exact ⟨gb, _, _, _, rfl, HF.out.1, hltgb, HF.out.2⟩





      · refine wy ?_
        go_simp
        clear hHeld
        go_at_call 40
        (with_reducible refine (H4.out _ bb).mono ?_)
        rintro e V2 ⟨r2, rfl, hr2, bn⟩
        go_wp2_with fail
        refine hK.out _ _ (held1 _) fun hHeld => ?_
        clear hK K
        replace bb := bb.trans bn
        clear bn
        refine tkC 12 ?_
        refine rd2 3 14 (fun K hK => ?_) (fun K hK => ?_)
        · refine wy ?_
          go_simp
          clear hHeld
          refine hK.out _ _ (held1 _) fun hHeld => ?_
          clear hK K
          have kb := Bk.new V2 5 #[.int .u8 yb]
          have bb2 := bb.alloc (by have := bb.size; omega) (.cells #[.int .u8 yb] 5)
          have hltnb : w.heap.size ≤ V2.heap.size := bb.size
          clear bb
          have bb := bb2
          clear bb2
          obtain ⟨nb, hnb⟩ : ∃ x, V2.heap.size = x := ⟨_, rfl⟩
          rw [hnb] at kb hltnb
          try rw [hnb]
          obtain ⟨V3, hV⟩ : ∃ wN, V2.alloc (.cells #[.int .u8 yb] 5) = wN := ⟨_, rfl⟩
          rw [hV] at kb bb hHeld ⊢
          clear hV hnb
          refine rd2 4 14 (fun K hK => ?_) (fun K hK => ?_)
          · have hc := run_convert_bytes_arg V3 104 5 Tryd.underlying104 Tryd.underlying5 nb 0 1 1 [yb] rfl (one_byte kb) 9 Tryd.underlying9
            refine wy ?_
            go_simp
            clear hHeld
            refine hK.out _ _ (held1 _) fun hHeld => ?_
            clear hK K
            clear hc
            refine tkC 5 ?_
            refine tkC 13 ?_
            refine rd1 14 fun K hK => ?_
            refine wy ?_
            go_simp
            clear hHeld
            refine hK.out _ _ (held1 _) fun hHeld => ?_
            clear hK K
            replace kb := kb.alloc (.cells zGlb 85)
            have kg := Bk.new V3 85 zGlb
            have bb2 := bb.alloc (by have := bb.size; omega) (.cells zGlb 85)
            have hltgb : w.heap.size ≤ V3.heap.size := bb.size
            clear bb
            have bb := bb2
            clear bb2
            obtain ⟨gb, hgb⟩ : ∃ x, V3.heap.size = x := ⟨_, rfl⟩
            rw [hgb] at kg hltgb
            try rw [hgb]
            obtain ⟨V4, hV⟩ : ∃ wN, V3.alloc (.cells zGlb 85) = wN := ⟨_, rfl⟩
            rw [hV] at kg kb bb hHeld ⊢
            clear hV hgb
            refine rd1 15 fun K hK => ?_
            obtain ⟨g0, g1, g2, g3, g4, g5, g6, g7, g8, z0, z1, z2, z3, z4, z5, z6, z7, z8⟩ := nine kg
            have HF := Lib.hid (fin0 (r1 := r1) (r2 := r2) (sb := sb) kg bb hltgb hgw)
            unfold store9g at HF
            clear kg kb bb
            refine wy ?_
            go_simp
            clear hHeld
            refine hK.out _ _ (held1 _) fun hHeld => ?_
            clear hK K
            clear g0 z0 g1 z1 g2 z2 g3 z3 g4 z4 g5 z5 g6 z6 g7 z7 g8 z8
            refine wpAnyH_done (by kernel_rfl) ?_ _
            clear hHeld HS
            go_wp2_with fail
            go_meet
            exact ⟨gb, _, _, _, rfl, HF.out.1, hltgb, HF.out.2⟩



          · refine wy ?_
            go_simp
            clear hHeld
            refine hK.out _ _ (held1 _) fun hHeld => ?_
            clear hK K
            replace kb := kb.alloc (.cells zGlb 85)
            have kg := Bk.new V3 85 zGlb
            have bb2 := bb.alloc (by have := bb.size; omega) (.cells zGlb 85)
            have hltgb : w.heap.size ≤ V3.heap.size := bb.size
            clear bb
            have bb := bb2
            clear bb2
            obtain ⟨gb, hgb⟩ : ∃ x, V3.heap.size = x := ⟨_, rfl⟩
            rw [hgb] at kg hltgb
            try rw [hgb]
            obtain ⟨V4, hV⟩ : ∃ wN, V3.alloc (.cells zGlb 85) = wN := ⟨_, rfl⟩
            rw [hV] at kg kb bb hHeld ⊢
            clear hV hgb
            refine rd1 4 fun K hK => ?_
            have hc := run_convert_bytes_arg V4 104 5 Tryd.underlying104 Tryd.underlying5 nb 0 1 1 [yb] rfl (one_byte kb) 9 Tryd.underlying9
            refine wy ?_
            go_simp
            clear hHeld
            refine hK.out _ _ (held1 _) fun hHeld => ?_
            clear hK K
            clear hc
            refine tkC 5 ?_
            refine tkC 13 ?_
            refine rd1 15 fun K hK => ?_
            obtain ⟨g0, g1, g2, g3, g4, g5, g6, g7, g8, z0, z1, z2, z3, z4, z5, z6, z7, z8⟩ := nine kg
            have HF := Lib.hid (fin0 (r1 := r1) (r2 := r2) (sb := sb) kg bb hltgb hgw)
            unfold store9g at HF
            clear kg kb bb
            refine wy ?_
            go_simp
            clear hHeld
            refine hK.out _ _ (held1 _) fun hHeld => ?_
            clear hK K
            clear g0 z0 g1 z1 g2 z2 g3 z3 g4 z4 g5 z5 g6 z6 g7 z7 g8 z8
            refine wpAnyH_done (by kernel_rfl) ?_ _
            clear hHeld HS
            go_wp2_with fail
            go_meet
            exact ⟨gb, _, _, _, rfl, HF.out.1, hltgb, HF.out.2⟩




        · refine wy ?_
          go_simp
          clear hHeld
          refine hK.out _ _ (held1 _) fun hHeld => ?_
          clear hK K
          have kg := Bk.new V2 85 zGlb
          have bb2 := bb.alloc (by have := bb.size; omega) (.cells zGlb 85)
          have hltgb : w.heap.size ≤ V2.heap.size := bb.size
          clear bb
          have bb := bb2
          clear bb2
          obtain ⟨gb, hgb⟩ : ∃ x, V2.heap.size = x := ⟨_, rfl⟩
          rw [hgb] at kg hltgb
          try rw [hgb]
          obtain ⟨V3, hV⟩ : ∃ wN, V2.alloc (.cells zGlb 85) = wN := ⟨_, rfl⟩
          rw [hV] at kg bb hHeld ⊢
          clear hV hgb
          refine rd1 3 fun K hK => ?_
          refine wy ?_
          go_simp
          clear hHeld
          refine hK.out _ _ (held1 _) fun hHeld => ?_
          clear hK K
          replace kg := kg.alloc (.cells #[.int .u8 yb] 5)
          have kb := Bk.new V3 5 #[.int .u8 yb]
          have bb2 := bb.alloc (by have := bb.size; omega) (.cells #[.int .u8 yb] 5)
          have hltnb : w.heap.size ≤ V3.heap.size := bb.size
          clear bb
          have bb := bb2
          clear bb2
          obtain ⟨nb, hnb⟩ : ∃ x, V3.heap.size = x := ⟨_, rfl⟩
          rw [hnb] at kb hltnb
          try rw [hnb]
          obtain ⟨V4, hV⟩ : ∃ wN, V3.alloc (.cells #[.int .u8 yb] 5) = wN := ⟨_, rfl⟩
          rw [hV] at kg kb bb hHeld ⊢
          clear hV hnb
          refine rd1 4 fun K hK => ?_
          have hc := run_convert_bytes_arg V4 104 5 Tryd.underlying104 Tryd.underlying5 nb 0 1 1 [yb] rfl (one_byte kb) 9 Tryd.underlying9
          refine wy ?_
          go_simp
          clear hHeld
          refine hK.out _ _ (held1 _) fun hHeld => ?_
          clear hK K
          clear hc
          refine tkC 5 ?_
          refine tkC 13 ?_
          refine rd1 15 fun K hK => ?_
          obtain ⟨g0, g1, g2, g3, g4, g5, g6, g7, g8, z0, z1, z2, z3, z4, z5, z6, z7, z8⟩ := nine kg
          have HF := Lib.hid (fin0 (r1 := r1) (r2 := r2) (sb := sb) kg bb hltgb hgw)
          unfold store9g at HF
          clear kg kb bb
          refine wy ?_
          go_simp
          clear hHeld
          refine hK.out _ _ (held1 _) fun hHeld => ?_
          clear hK K
          clear g0 z0 g1 z1 g2 z2 g3 z3 g4 z4 g5 z5 g6 z6 g7 z7 g8 z8
          refine wpAnyH_done (by kernel_rfl) ?_ _
          clear hHeld HS
          go_wp2_with fail
          go_meet
          exact ⟨gb, _, _, _, rfl, HF.out.1, hltgb, HF.out.2⟩





      · refine wy ?_
        go_simp
        clear hHeld
        refine hK.out _ _ (held1 _) fun hHeld => ?_
        clear hK K
        have kg := Bk.new V1 85 zGlb
        have bb2 := bb.alloc (by have := bb.size; omega) (.cells zGlb 85)
        have hltgb : w.heap.size ≤ V1.heap.size := bb.size
        clear bb
        have bb := bb2
        clear bb2
        obtain ⟨gb, hgb⟩ : ∃ x, V1.heap.size = x := ⟨_, rfl⟩
        rw [hgb] at kg hltgb
        try rw [hgb]
        obtain ⟨V2, hV⟩ : ∃ wN, V1.alloc (.cells zGlb 85) = wN := ⟨_, rfl⟩
        rw [hV] at kg bb hHeld ⊢
        clear hV hgb
        refine rd2 3 11 (fun K hK => ?_) (fun K hK => ?_)
        · refine wy ?_
          go_simp
          clear hHeld
          refine hK.out _ _ (held1 _) fun hHeld => ?_
          clear hK K
          replace kg := kg.alloc (.cells #[.int .u8 yb] 5)
          have kb := Bk.new V2 5 #[.int .u8 yb]
          have bb2 := bb.alloc (by have := bb.size; omega) (.cells #[.int .u8 yb] 5)
          have hltnb : w.heap.size ≤ V2.heap.size := bb.size
          clear bb
          have bb := bb2
          clear bb2
          obtain ⟨nb, hnb⟩ : ∃ x, V2.heap.size = x := ⟨_, rfl⟩
          rw [hnb] at kb hltnb
          try rw [hnb]
          obtain ⟨V3, hV⟩ : ∃ wN, V2.alloc (.cells #[.int .u8 yb] 5) = wN := ⟨_, rfl⟩
          rw [hV] at kg kb bb hHeld ⊢
          clear hV hnb
          refine rd2 4 11 (fun K hK => ?_) (fun K hK => ?_)
          · have hc := run_convert_bytes_arg V3 104 5 Tryd.underlying104 Tryd.underlying5 nb 0 1 1 [yb] rfl (one_byte kb) 9 Tryd.underlying9
            refine wy ?_
            go_simp
            clear hHeld
            refine hK.out _ _ (held1 _) fun hHeld => ?_
            clear hK K
            clear hc
            refine tkC 5 ?_
            refine rd1 11 fun K hK => ?_
            refine wy ?_
            go_simp
            clear hHeld
            go_at_call 40
            (with_reducible refine (H4.out _ bb).mono ?_)
            rintro e V4 ⟨r2, rfl, hr2, bn⟩
            go_wp2_with fail
            refine hK.out _ _ (held1 _) fun hHeld => ?_
            clear hK K
            replace kg := bn.bk kg (by omega)
            replace kb := bn.bk kb (by omega)
            replace bb := bb.trans bn
            clear bn
            refine tkC 12 ?_
            refine tkC 13 ?_
            refine rd1 15 fun K hK => ?_
            obtain ⟨g0, g1, g2, g3, g4, g5, g6, g7, g8, z0, z1, z2, z3, z4, z5, z6, z7, z8⟩ := nine kg
            have HF := Lib.hid (fin0 (r1 := r1) (r2 := r2) (sb := sb) kg bb hltgb hgw)
            unfold store9g at HF
            clear kg kb bb
            refine wy ?_
            go_simp
            clear hHeld
            refine hK.out _ _ (held1 _) fun hHeld => ?_
            clear hK K
            clear g0 z0 g1 z1 g2 z2 g3 z3 g4 z4 g5 z5 g6 z6 g7 z7 g8 z8
            refine wpAnyH_done (by kernel_rfl) ?_ _
            clear hHeld HS
            go_wp2_with fail
            go_meet
            exact ⟨gb, _, _, _, rfl, HF.out.1, hltgb, HF.out.2⟩



          · refine wy ?_
            go_simp
            clear hHeld
            go_at_call 40
            (with_reducible refine (H4.out _ bb).mono ?_)
            rintro e V4 ⟨r2, rfl, hr2, bn⟩
            go_wp2_with fail
            refine hK.out _ _ (held1 _) fun hHeld => ?_
            clear hK K
            replace kg := bn.bk kg (by omega)
            replace kb := bn.bk kb (by omega)
            replace bb := bb.trans bn
            clear bn
            refine tkC 12 ?_
            refine rd1 4 fun K hK => ?_
            have hc := run_convert_bytes_arg V4 104 5 Tryd.underlying104 Tryd.underlying5 nb 0 1 1 [yb] rfl (one_byte kb) 9 Tryd.underlying9
            refine wy ?_
            go_simp
            clear hHeld
            refine hK.out _ _ (held1 _) fun hHeld => ?_
            clear hK K
            clear hc
            refine tkC 5 ?_
            refine tkC 13 ?_
            refine rd1 15 fun K hK => ?_
            obtain ⟨g0, g1, g2, g3, g4, g5, g6, g7, g8, z0, z1, z2, z3, z4, z5, z6, z7, z8⟩ := nine kg
            have HF := Lib.hid (fin0 (r1 := r1) (r2 := r2) (sb := sb) kg bb hltgb hgw)
            unfold store9g at HF
            clear kg kb bb
            refine wy ?_
            go_simp
            clear hHeld
            refine hK.out _ _ (held1 _) fun hHeld => ?_
            clear hK K
            clear g0 z0 g1 z1 g2 z2 g3 z3 g4 z4 g5 z5 g6 z6 g7 z7 g8 z8
            refine wpAnyH_done (by kernel_rfl) ?_ _
            clear hHeld HS
            go_wp2_with fail
            go_meet
            exact ⟨gb, _, _, _, rfl, HF.out.1, hltgb, HF.out.2⟩




        · refine wy ?_
          go_simp
          clear hHeld
          go_at_call 40
          (with_reducible refine (H4.out _ bb).mono ?_)
          rintro e V3 ⟨r2, rfl, hr2, bn⟩
          go_wp2_with fail
          refine hK.out _ _ (held1 _) fun hHeld => ?_
          clear hK K
          replace kg := bn.bk kg (by omega)
          replace bb := bb.trans bn
          clear bn
          refine tkC 12 ?_
          refine rd1 3 fun K hK => ?_
          refine wy ?_
          go_simp
          clear hHeld
          refine hK.out _ _ (held1 _) fun hHeld => ?_
          clear hK K
          replace kg := kg.alloc (.cells #[.int .u8 yb] 5)
          have kb := Bk.new V3 5 #[.int .u8 yb]
          have bb2 := bb.alloc (by have := bb.size; omega) (.cells #[.int .u8 yb] 5)
          have hltnb : w.heap.size ≤ V3.heap.size := bb.size
          clear bb
          have bb := bb2
          clear bb2
          obtain ⟨nb, hnb⟩ : ∃ x, V3.heap.size = x := ⟨_, rfl⟩
          rw [hnb] at kb hltnb
          try rw [hnb]
          obtain ⟨V4, hV⟩ : ∃ wN, V3.alloc (.cells #[.int .u8 yb] 5) = wN := ⟨_, rfl⟩
          rw [hV] at kg kb bb hHeld ⊢
          clear hV hnb
          refine rd1 4 fun K hK => ?_
          have hc := run_convert_bytes_arg V4 104 5 Tryd.underlying104 Tryd.underlying5 nb 0 1 1 [yb] rfl (one_byte kb) 9 Tryd.underlying9
          refine wy ?_
          go_simp
          clear hHeld
          refine hK.out _ _ (held1 _) fun hHeld => ?_
          clear hK K
          clear hc
          refine tkC 5 ?_
          refine tkC 13 ?_
          refine rd1 15 fun K hK => ?_
          obtain ⟨g0, g1, g2, g3, g4, g5, g6, g7, g8, z0, z1, z2, z3, z4, z5, z6, z7, z8⟩ := nine kg
          have HF := Lib.hid (fin0 (r1 := r1) (r2 := r2) (sb := sb) kg bb hltgb hgw)
          unfold store9g at HF
          clear kg kb bb
          refine wy ?_
          go_simp
          clear hHeld
          refine hK.out _ _ (held1 _) fun hHeld => ?_
          clear hK K
          clear g0 z0 g1 z1 g2 z2 g3 z3 g4 z4 g5 z5 g6 z6 g7 z7 g8 z8
          refine wpAnyH_done (by kernel_rfl) ?_ _
          clear hHeld HS
          go_wp2_with fail
          go_meet
          exact ⟨gb, _, _, _, rfl, HF.out.1, hltgb, HF.out.2⟩






    · refine wy ?_
      go_simp
      clear hHeld
      refine hK.out _ _ (held1 _) fun hHeld => ?_
      clear hK K
      have kg := Bk.new W0 85 zGlb
      have bb2 := bb.alloc (by have := bb.size; omega) (.cells zGlb 85)
      have hltgb : w.heap.size ≤ W0.heap.size := bb.size
      clear bb
      have bb := bb2
      clear bb2
      obtain ⟨gb, hgb⟩ : ∃ x, W0.heap.size = x := ⟨_, rfl⟩
      rw [hgb] at kg hltgb
      try rw [hgb]
      obtain ⟨V1, hV⟩ : ∃ wN, W0.alloc (.cells zGlb 85) = wN := ⟨_, rfl⟩
      rw [hV] at kg bb hHeld ⊢
      clear hV hgb
      refine rd2 3 7 (fun K hK => ?_) (fun K hK => ?_)
      · refine wy ?_
        go_simp
        clear hHeld
        refine hK.out _ _ (held1 _) fun hHeld => ?_
        clear hK K
        replace kg := kg.alloc (.cells #[.int .u8 yb] 5)
        have kb := Bk.new V1 5 #[.int .u8 yb]
        have bb2 := bb.alloc (by have := bb.size; omega) (.cells #[.int .u8 yb] 5)
        have hltnb : w.heap.size ≤ V1.heap.size := bb.size
        clear bb
        have bb := bb2
        clear bb2
        obtain ⟨nb, hnb⟩ : ∃ x, V1.heap.size = x := ⟨_, rfl⟩
        rw [hnb] at kb hltnb
        try rw [hnb]
        obtain ⟨V2, hV⟩ : ∃ wN, V1.alloc (.cells #[.int .u8 yb] 5) = wN := ⟨_, rfl⟩
        rw [hV] at kg kb bb hHeld ⊢
        clear hV hnb
        refine rd2 4 7 (fun K hK => ?_) (fun K hK => ?_)
        · have hc := run_convert_bytes_arg V2 104 5 Tryd.underlying104 Tryd.underlying5 nb 0 1 1 [yb] rfl (one_byte kb) 9 Tryd.underlying9
          refine wy ?_
          go_simp
          clear hHeld
          refine hK.out _ _ (held1 _) fun hHeld => ?_
          clear hK K
          clear hc
          refine tkC 5 ?_
          refine rd1 7 fun K hK => ?_
          refine wy ?_
          go_simp
          clear hHeld
          go_at_call 40
          (with_reducible refine (H19.out _ bb).mono ?_)
          rintro e V3 ⟨r1, rfl, hr1, bn⟩
          go_wp2_with fail
          refine hK.out _ _ (held1 _) fun hHeld => ?_
          clear hK K
          replace kg := bn.bk kg (by omega)
          replace kb := bn.bk kb (by omega)
          replace bb := bb.trans bn
          clear bn
          refine tkC 8 ?_
          refine tkC 9 ?_
          refine rd1 11 fun K hK => ?_
          refine wy ?_
          go_simp
          clear hHeld
          go_at_call 40
          (with_reducible refine (H4.out _ bb).mono ?_)
          rintro e V4 ⟨r2, rfl, hr2, bn⟩
          go_wp2_with fail
          refine hK.out _ _ (held1 _) fun hHeld => ?_
          clear hK K
          replace kg := bn.bk kg (by omega)
          replace kb := bn.bk kb (by omega)
          replace bb := bb.trans bn
          clear bn
          refine tkC 12 ?_
          refine tkC 13 ?_
          refine rd1 15 fun K hK => ?_
          obtain ⟨g0, g1, g2, g3, g4, g5, g6, g7, g8, z0, z1, z2, z3, z4, z5, z6, z7, z8⟩ := nine kg
          have HF := Lib.hid (fin0 (r1 := r1) (r2 := r2) (sb := sb) kg bb hltgb hgw)
          unfold store9g at HF
          clear kg kb bb
          refine wy ?_
          go_simp
          clear hHeld
          refine hK.out _ _ (held1 _) fun hHeld => ?_
          clear hK K
          clear g0 z0 g1 z1 g2 z2 g3 z3 g4 z4 g5 z5 g6 z6 g7 z7 g8 z8
          refine wpAnyH_done (by kernel_rfl) ?_ _
          clear hHeld HS
          go_wp2_with fail
          go_meet
          exact ⟨gb, _, _, _, rfl, HF.out.1, hltgb, HF.out.2⟩




        · refine wy ?_
          go_simp
          clear hHeld
          go_at_call 40
          (with_reducible refine (H19.out _ bb).mono ?_)
          rintro e V3 ⟨r1, rfl, hr1, bn⟩
          go_wp2_with fail
          refine hK.out _ _ (held1 _) fun hHeld => ?_
          clear hK K
          replace kg := bn.bk kg (by omega)
          replace kb := bn.bk kb (by omega)
          replace bb := bb.trans bn
          clear bn
          refine tkC 8 ?_
          refine tkC 9 ?_
          refine rd2 4 11 (fun K hK => ?_) (fun K hK => ?_)
          · have hc := run_convert_bytes_arg V3 104 5 Tryd.underlying104 Tryd.underlying5 nb 0 1 1 [yb] rfl (one_byte kb) 9 Tryd.underlying9
            refine wy ?_
            go_simp
            clear hHeld
            refine hK.out _ _ (held1 _) fun hHeld => ?_
            clear hK K
            clear hc
            refine tkC 5 ?_
            refine rd1 11 fun K hK => ?_
            refine wy ?_
            go_simp
            clear hHeld
            go_at_call 40
            (with_reducible refine (H4.out _ bb).mono ?_)
            rintro e V4 ⟨r2, rfl, hr2, bn⟩
            go_wp2_with fail
            refine hK.out _ _ (held1 _) fun hHeld => ?_
            clear hK K
            replace kg := bn.bk kg (by omega)
            replace kb := bn.bk kb (by omega)
            replace bb := bb.trans bn
            clear bn
            refine tkC 12 ?_
            refine tkC 13 ?_
            refine rd1 15 fun K hK => ?_
            obtain ⟨g0, g1, g2, g3, g4, g5, g6, g7, g8, z0, z1, z2, z3, z4, z5, z6, z7, z8⟩ := nine kg
            have HF := Lib.hid (fin0 (r1 := r1) (r2 := r2) (sb := sb) kg bb hltgb hgw)
            unfold store9g at HF
            clear kg kb bb
            refine wy ?_
            go_simp
            clear hHeld
            refine hK.out _ _ (held1 _) fun hHeld => ?_
            clear hK K
            clear g0 z0 g1 z1 g2 z2 g3 z3 g4 z4 g5 z5 g6 z6 g7 z7 g8 z8
            refine wpAnyH_done (by kernel_rfl) ?_ _
            clear hHeld HS
            go_wp2_with fail
            go_meet
            exact ⟨gb, _, _, _, rfl, HF.out.1, hltgb, HF.out.2⟩



          · refine wy ?_
            go_simp
            clear hHeld
            go_at_call 40
            (with_reducible refine (H4.out _ bb).mono ?_)
            rintro e V4 ⟨r2, rfl, hr2, bn⟩
            go_wp2_with fail
            refine hK.out _ _ (held1 _) fun hHeld => ?_
            clear hK K
            replace kg := bn.bk kg (by omega)
            replace kb := bn.bk kb (by omega)
            replace bb := bb.trans bn
            clear bn
            refine tkC 12 ?_
            refine rd1 4 fun K hK => ?_
            have hc := run_convert_bytes_arg V4 104 5 Tryd.underlying104 Tryd.underlying5 nb 0 1 1 [yb] rfl (one_byte kb) 9 Tryd.underlying9
            refine wy ?_
            go_simp
            clear hHeld
            refine hK.out _ _ (held1 _) fun hHeld => ?_
            clear hK K
            clear hc
            refine tkC 5 ?_
            refine tkC 13 ?_
            refine rd1 15 fun K hK => ?_
            obtain ⟨g0, g1, g2, g3, g4, g5, g6, g7, g8, z0, z1, z2, z3, z4, z5, z6, z7, z8⟩ := nine kg
            have HF := Lib.hid (fin0 (r1 := r1) (r2 := r2) (sb := sb) kg bb hltgb hgw)
            unfold store9g at HF
            clear kg kb bb
            refine wy ?_
            go_simp
            clear hHeld
            refine hK.out _ _ (held1 _) fun hHeld => ?_
            clear hK K
            clear g0 z0 g1 z1 g2 z2 g3 z3 g4 z4 g5 z5 g6 z6 g7 z7 g8 z8
            refine wpAnyH_done (by kernel_rfl) ?_ _
            clear hHeld HS
            go_wp2_with fail
            go_meet
            exact ⟨gb, _, _, _, rfl, HF.out.1, hltgb, HF.out.2⟩





      · refine wy ?_
        go_simp
        clear hHeld
        go_at_call 40
        (with_reducible refine (H19.out _ bb).mono ?_)
        rintro e V2 ⟨r1, rfl, hr1, bn⟩
        go_wp2_with fail
        refine hK.out _ _ (held1 _) fun hHeld => ?_
        clear hK K
        replace kg := bn.bk kg (by omega)
        replace bb := bb.trans bn
        clear bn
        refine tkC 8 ?_
        refine tkC 9 ?_
        refine rd2 3 11 (fun K hK => ?_) (fun K hK => ?_)
        · refine wy ?_
          go_simp
          clear hHeld
          refine hK.out _ _ (held1 _) fun hHeld => ?_
          clear hK K
          replace kg := kg.alloc (.cells #[.int .u8 yb] 5)
          have kb := Bk.new V2 5 #[.int .u8 yb]
          have bb2 := bb.alloc (by have := bb.size; omega) (.cells #[.int .u8 yb] 5)
          have hltnb : w.heap.size ≤ V2.heap.size := bb.size
          clear bb
          have bb := bb2
          clear bb2
          obtain ⟨nb, hnb⟩ : ∃ x, V2.heap.size = x := ⟨_, rfl⟩
          rw [hnb] at kb hltnb
          try rw [hnb]
          obtain ⟨V3, hV⟩ : ∃ wN, V2.alloc (.cells #[.int .u8 yb] 5) = wN := ⟨_, rfl⟩
          rw [hV] at kg kb bb hHeld ⊢
          clear hV hnb
          refine rd2 4 11 (fun K hK => ?_) (fun K hK => ?_)
          · have hc := run_convert_bytes_arg V3 104 5 Tryd.underlying104 Tryd.underlying5 nb 0 1 1 [yb] rfl (one_byte kb) 9 Tryd.underlying9
            refine wy ?_
            go_simp
            clear hHeld
            refine hK.out _ _ (held1 _) fun hHeld => ?_
            clear hK K
            clear hc
            refine tkC 5 ?_
            refine rd1 11 fun K hK => ?_
            refine wy ?_
            go_simp
            clear hHeld
            go_at_call 40
            (with_reducible refine (H4.out _ bb).mono ?_)
            rintro e V4 ⟨r2, rfl, hr2, bn⟩
            go_wp2_with fail
            refine hK.out _ _ (held1 _) fun hHeld => ?_
            clear hK K
            replace kg := bn.bk kg (by omega)
            replace kb := bn.bk kb (by omega)
            replace bb := bb.trans bn
            clear bn
            refine tkC 12 ?_
            refine tkC 13 ?_
            refine rd1 15 fun K hK => ?_
            obtain ⟨g0, g1, g2, g3, g4, g5, g6, g7, g8, z0, z1, z2, z3, z4, z5, z6, z7, z8⟩ := nine kg
            have HF := Lib.hid (fin0 (r1 := r1) (r2 := r2) (sb := sb) kg bb hltgb hgw)
            unfold store9g at HF
            clear kg kb bb
            refine wy ?_
            go_simp
            clear hHeld
            refine hK.out _ _ (held1 _) fun hHeld => ?_
            clear hK K
            clear g0 z0 g1 z1 g2 z2 g3 z3 g4 z4 g5 z5 g6 z6 g7 z7 g8 z8
            refine wpAnyH_done (by kernel_rfl) ?_ _
            clear hHeld HS
            go_wp2_with fail
            go_meet
            exact ⟨gb, _, _, _, rfl, HF.out.1, hltgb, HF.out.2⟩



          · refine wy ?_
            go_simp
            clear hHeld
            go_at_call 40
            (with_reducible refine (H4.out _ bb).mono ?_)
            rintro e V4 ⟨r2, rfl, hr2, bn⟩
            go_wp2_with fail
            refine hK.out _ _ (held1 _) fun hHeld => ?_
            clear hK K
            replace kg := bn.bk kg (by omega)
            replace kb := bn.bk kb (by omega)
            replace bb := bb.trans bn
            clear bn
            refine tkC 12 ?_
            refine rd1 4 fun K hK => ?_
            have hc := run_convert_bytes_arg V4 104 5 Tryd.underlying104 Tryd.underlying5 nb 0 1 1 [yb] rfl (one_byte kb) 9 Tryd.underlying9
            refine wy ?_
            go_simp
            clear hHeld
            refine hK.out _ _ (held1 _) fun hHeld => ?_
            clear hK K
            clear hc
            refine tkC 5 ?_
            refine tkC 13 ?_
            refine rd1 15 fun K hK => ?_
            obtain ⟨g0, g1, g2, g3, g4, g5, g6, g7, g8, z0, z1, z2, z3, z4, z5, z6, z7, z8⟩ := nine kg
            have HF := Lib.hid (fin0 (r1 := r1) (r2 := r2) (sb := sb) kg bb hltgb hgw)
            unfold store9g at HF
            clear kg kb bb
            refine wy ?_
            go_simp
            clear hHeld
            refine hK.out _ _ (held1 _) fun hHeld => ?_
            clear hK K
            clear g0 z0 g1 z1 g2 z2 g3 z3 g4 z4 g5 z5 g6 z6 g7 z7 g8 z8
            refine wpAnyH_done (by kernel_rfl) ?_ _
            clear hHeld HS
            go_wp2_with fail
            go_meet
            exact ⟨gb, _, _, _, rfl, HF.out.1, hltgb, HF.out.2⟩




        · refine wy ?_
          go_simp
          clear hHeld
          go_at_call 40
          (with_reducible refine (H4.out _ bb).mono ?_)
          rintro e V3 ⟨r2, rfl, hr2, bn⟩
          go_wp2_with fail
          refine hK.out _ _ (held1 _) fun hHeld => ?_
          clear hK K
          replace kg := bn.bk kg (by omega)
          replace bb := bb.trans bn
          clear bn
          refine tkC 12 ?_
          refine rd1 3 fun K hK => ?_
          refine wy ?_
          go_simp
          clear hHeld
          refine hK.out _ _ (held1 _) fun hHeld => ?_
          clear hK K
          replace kg := kg.alloc (.cells #[.int .u8 yb] 5)
          have kb := Bk.new V3 5 #[.int .u8 yb]
          have bb2 := bb.alloc (by have := bb.size; omega) (.cells #[.int .u8 yb] 5)
          have hltnb : w.heap.size ≤ V3.heap.size := bb.size
          clear bb
          have bb := bb2
          clear bb2
          obtain ⟨nb, hnb⟩ : ∃ x, V3.heap.size = x := ⟨_, rfl⟩
          rw [hnb] at kb hltnb
          try rw [hnb]
          obtain ⟨V4, hV⟩ : ∃ wN, V3.alloc (.cells #[.int .u8 yb] 5) = wN := ⟨_, rfl⟩
          rw [hV] at kg kb bb hHeld ⊢
          clear hV hnb
          refine rd1 4 fun K hK => ?_
          have hc := run_convert_bytes_arg V4 104 5 Tryd.underlying104 Tryd.underlying5 nb 0 1 1 [yb] rfl (one_byte kb) 9 Tryd.underlying9
          refine wy ?_
          go_simp
          clear hHeld
          refine hK.out _ _ (held1 _) fun hHeld => ?_
          clear hK K
          clear hc
          refine tkC 5 ?_
          refine tkC 13 ?_
          refine rd1 15 fun K hK => ?_
          obtain ⟨g0, g1, g2, g3, g4, g5, g6, g7, g8, z0, z1, z2, z3, z4, z5, z6, z7, z8⟩ := nine kg
          have HF := Lib.hid (fin0 (r1 := r1) (r2 := r2) (sb := sb) kg bb hltgb hgw)
          unfold store9g at HF
          clear kg kb bb
          refine wy ?_
          go_simp
          clear hHeld
          refine hK.out _ _ (held1 _) fun hHeld => ?_
          clear hK K
          clear g0 z0 g1 z1 g2 z2 g3 z3 g4 z4 g5 z5 g6 z6 g7 z7 g8 z8
          refine wpAnyH_done (by kernel_rfl) ?_ _
          clear hHeld HS
          go_wp2_with fail
          go_meet
          exact ⟨gb, _, _, _, rfl, HF.out.1, hltgb, HF.out.2⟩
  case rest =>
    obtain ⟨gb, nm, adv, mk, rfl, kg, hgb, hu⟩ := hcut
    generalize hwcr : wc = wr at *
    clear hwcr wc hyb hsb hsz sb yb
    go_upto_if 25 with fail
    go_cut [] from 24 to 27 (fun wx => ∃ (nm : ByteArray) (mk : Bool), Bk wx gb 85 #[.string nm, .int .i64 adv, .bool mk, .slice none 0 0, .slice none 0 0, .slice none 0 0, .slice none 0 0, .slice none 0 0, .slice none 0 0] ∧ Up gm w wx)
    case first =>
      by_cases hi0 : i = 0
      · have t0 : ((i : Int) == 0) = true := by simp; omega
        have t0' : (i == 0) = true := by simpa using hi0
        have g0 := bx kg 0 rfl
        have g2 := bx kg 2 rfl
        have z0 := kg.frozen 0
        have z2 := kg.frozen 2
        have HF := Lib.hid (And.intro ((kg.set_ 0 (.string ⟨#[46, 110, 111, 116, 100, 101, 102]⟩)).set_ 2 (.bool false)) ((hu.set (p := ⟨gb, 0, none⟩) hgb hgw (.string ⟨#[46, 110, 111, 116, 100, 101, 102]⟩)).set (p := ⟨gb, 2, none⟩) hgb hgw (.bool false)))
        clear kg hu hi0
        go_wp2
        go_meet
        exact ⟨_, _, HF.out.1, HF.out.2⟩
      · have t0 : ((i : Int) == 0) = false := by simp; omega
        have t0' : (i == 0) = false := by simpa using hi0
        clear hi0
        go_wp2
        go_meet
        exact ⟨nm, mk, kg, hu⟩
    case rest =>
      clear kg hu nm mk
      obtain ⟨nm, mk, kg, hu⟩ := hcut
      generalize hwcr : wc = wr at *
      clear hwcr wc
      have HC := Lib.hid (HO.out wr hu)
      go_wp2_with fail
      refine HC.out.mono ?_
      rintro e w3 ⟨pA, pn, pc, eA, en, ec, rfl, hpn, hpd, hed, hb⟩
      have kg3 := hb.bk kg (by omega)
      have hu3 := hu.trans hb
      have g3 := bx kg3 3 rfl
      have g4 := bx kg3 4 rfl
      have z3 := kg3.frozen 3
      have z4 := kg3.frozen 4
      have hst : GlS gm w ((w3.setCell ⟨gb, 3, none⟩ (.slice pA pn pc)).setCell ⟨gb, 4, none⟩ (.slice eA en ec)) gb ⟨nm, adv, mk, pA, pn, pc, eA, en, ec, none, 0, 0, none, 0, 0, none, 0, 0, none, 0, 0⟩ := ⟨(kg3.set_ 3 _).set_ 4 _, (hu3.set (p := ⟨gb, 3, none⟩) hgb hgw _).set (p := ⟨gb, 4, none⟩) hgb hgw _, hgb, ⟨[], Ow.nil _ _ _ _⟩, ⟨[], Ow.nil _ _ _ _, AncR.nil⟩, ⟨[], Ow.nil _ _ _ _⟩⟩
      have HST := Lib.hid hst
      clear hst kg3 hu3 hb HC kg hu hpd hed
      go_upto_region 5 with fail
      have hst := HST.out
      clear HST g3 g4 z3 z4
      obtain ⟨v, hv, hvp, hva, hvd, hvt⟩ : ∃ v : GlV, (⟨nm, adv, mk, pA, pn, pc, eA, en, ec, none, 0, 0, none, 0, 0, none, 0, 0, none, 0, 0⟩ : GlV) = v ∧ v.pn ≤ 10 ∧ v.an ≤ 0 ∧ v.dn ≤ 0 ∧ v.tn ≤ 0 := ⟨_, rfl, hpn, Nat.le_refl _, Nat.le_refl _, Nat.le_refl _⟩
      obtain ⟨wr, hwr⟩ : ∃ x, (w3.setCell ⟨gb, 3, none⟩ (.slice pA pn pc)).setCell ⟨gb, 4, none⟩ (.slice eA en ec) = x := ⟨_, rfl⟩
      rw [hwr, hv] at hst
      rw [hwr]
      clear hwr hv hpn
      go_cut [37] from 31 to 37 (fun bv wx => ∃ z : Bool, bv = .bool z ∧ GlS gm w wx gb v)
      case first =>
        by_cases hi1 : 1 < i
        · have i1 : (1 : Int) < (i : Int) := by omega
          have t1 : decide ((1 : Int) < (i : Int)) = true := decide_eq_true i1
          have t1' : decide (1 < i) = true := decide_eq_true hi1
          have HC := Lib.hid (show Calls Tryd.prog 40 #[.pointer (some ⟨gm, 0, none⟩), .int .i64 4] wr (NextR gm 4 wr) from HN.out 4 (by omega) (by omega) wr hst.u)
          go_wp2_with fail
          refine HC.out.mono ?_
          rintro e w3 ⟨r, rfl, hr, hb⟩
          replace hst := hst.up hgw hb
          clear HC hb
          obtain ⟨wr, hwr⟩ : ∃ x, w3 = x := ⟨_, rfl⟩
          rw [hwr] at hst ⊢
          clear hwr
          by_cases hr0 : r = 0
          · have tr : ((r : Int) == 0) = true := by simp; omega
            have tr' : (r == 0) = true := by simpa using hr0
            clear hr0
            go_wp2
            go_meet
            exact ⟨_, rfl, hst⟩
          · have tr : ((r : Int) == 0) = false := by simp; omega
            have tr' : (r == 0) = false := by simpa using hr0
            clear hr0
            go_wp2
            go_meet
            exact ⟨_, rfl, hst⟩
        · have i1 : ¬ (1 : Int) < (i : Int) := by omega
          have t1 : decide ((1 : Int) < (i : Int)) = false := decide_eq_false i1
          have t1' : decide (1 < i) = false := decide_eq_false hi1
          clear hi1
          go_wp2
          go_meet
          exact ⟨_, rfl, hst⟩
      case rest =>
       clear hst
       obtain ⟨z, rfl, hst⟩ := hcut
       generalize hwcr : wc = wr at *
       clear hwcr wc
       go_upto_if 37 with fail
       go_cut [] from 37 to 50 (fun wx => ∃ v : GlV, GlS gm w wx gb v ∧ v.pn ≤ 10 ∧ v.an ≤ 0 ∧ v.dn ≤ 0)
       case first =>
        cases z
        · go_wp2
          go_meet
          exact ⟨v, hst, hvp, hva, hvd⟩
        · skip
          have yX := bx hst.k 5 rfl
          have H9 := Lib.hid fun (W : World) (bW : Up gm wr W) => (show Calls Tryd.prog 40 #[.pointer (some ⟨gm, 0, none⟩), .int .i64 9] W (NextR gm 9 W) from HN.out 9 (by omega) (by omega) W (hst.u.trans bW))
          have H5 := Lib.hid fun (W : World) (bW : Up gm wr W) => (show Calls Tryd.prog 40 #[.pointer (some ⟨gm, 0, none⟩), .int .i64 5] W (NextR gm 5 W) from HN.out 5 (by omega) (by omega) W (hst.u.trans bW))
          have HS0 := Lib.hid hst
          have hwl := hst.u.size
          have hwg : gm < wr.heap.size := by omega
          clear hst
          go_upto_region 6 with fail
          have HS := Lib.hid fun (W : World) (bW : Up gm wr W) => (show Held1 W from held1 _)
          have bb := Up.refl gm wr
          refine wp_region_held_drew (S := fun w' => Held1 w') (by kernel_rfl) ?_ (fun hHeld => ?_)
          · exact HS.out _ (bb.drewN 1)
          replace bb := bb.drewN 1
          change Up _ _ wr.drew at bb
          generalize hw0 : wr.drew = W0 at hHeld bb ⊢
          clear hw0
          refine tkC 0 ?_
          refine tkC 2 ?_
          refine tkC 6 ?_
          refine rd2 1 3 (fun K hK => ?_) (fun K hK => ?_)
          · have yL : W0.cell? ⟨gb, 5, none⟩ = some (.slice v.tA v.tn v.tc) := bb.cell yX (by show gb ≠ gm; omega)
            refine wy ?_
            go_simp
            clear hHeld
            refine hK.out _ _ (held1 _) fun hHeld => ?_
            clear hK K
            clear yL
            refine rd1 3 fun K hK => ?_
            refine wy ?_
            go_simp
            clear hHeld
            go_at_call 40
            (with_reducible refine (H9.out _ bb).mono ?_)
            rintro e V1 ⟨r1, rfl, hr1, bn⟩
            go_wp2_with fail
            refine hK.out _ _ (HS.out _ (bb.trans bn)) fun hHeld => ?_
            clear hK K
            replace bb := bb.trans bn
            clear bn
            refine tkC 4 ?_
            refine tkC 5 ?_
            refine rd1 7 fun K hK => ?_
            refine wy ?_
            go_simp
            clear hHeld
            go_at_call 40
            (with_reducible refine (H5.out _ bb).mono ?_)
            rintro e V2 ⟨r2, rfl, hr2, bn⟩
            go_wp2_with fail
            refine hK.out _ _ (HS.out _ (bb.trans bn)) fun hHeld => ?_
            clear hK K
            replace bb := bb.trans bn
            clear bn
            refine tkC 8 ?_
            refine tkC 9 ?_
            refine rd1 10 fun K hK => ?_
            refine wy ?_
            go_simp
            clear hHeld
            refine hK.out _ _ (HS.out _ (bb.alloc (by have := bb.size; omega) _)) fun hHeld => ?_
            clear hK K
            obtain ⟨V3, hV⟩ := world_of (hHeld)
            obtain ⟨xs, hcP, hcl, hc1, hnw⟩ : ∃ xs : List Value, True ∧ xs.length = 3 ∧ (∀ u ∈ xs, u.oneCell' = true) ∧ (0 < 1 → ∃ b o, some (⟨V2.heap.size, 0, none⟩ : Addr) = some ⟨b, o, none⟩ ∧ ∀ j u, xs[j]? = some u → V3.cell? ⟨b, o + j, none⟩ = some u) := by
              rw [hV]
              exact ⟨_, trivial, rfl, (by simp [Value.oneCell']), news_new _ _ _⟩
            have bb2 : Up gm wr V3 := by rw [hV]; exact bb.alloc (by have := bb.size; omega) _
            rw [← hV] at hHeld
            rw [← hV]
            clear hV bb
            have bb := bb2
            clear bb2
            refine rd1 11 fun K hK => ?_
            clear hHeld
            have how := (HS0.out.up hgw bb).par.choose_spec
            have hs4 : w.heap.size ≤ V3.heap.size := by have := bb.size; omega
            refine appStep elt_part (by kernel_rfl) _ _ rfl V3 (w.heap.size) _ _ _ (_) _ 1 1 xs (by rfl) (by rfl) how (by rw [hcl]) hnw hc1 (by omega) hs4 ?_
            intro A' c' W4 ho4 hg4 hb4 hat4
            have hpp := (HS0.out.up hgw bb).pushPart hgw ho4 hg4 hb4
            have k4 := hpp.1
            have hp9 := hpp.2
            have g0 := bx k4 5 rfl
            have z0 := k4.frozen 5
            clear ho4 hg4 hb4 hat4 how hs4 hnw hc1 hcl hcP hpp k4
            refine hkG hK (held1 _) fun hHeld => ?_
            clear hK K
            refine tkC 12 ?_
            refine rd1 13 fun K hK => ?_
            refine wy ?_
            go_simp
            clear hHeld
            refine hK.out _ _ (held1 _) fun hHeld => ?_
            clear hK K
            refine wpAnyH_done (by kernel_rfl) ?_ _
            clear hHeld HS g0 z0 bb
            go_wp2_with fail
            go_meet
            exact ⟨_, hp9, hvp, hva, hvd⟩






          · refine wy ?_
            go_simp
            clear hHeld
            go_at_call 40
            (with_reducible refine (H9.out _ bb).mono ?_)
            rintro e V1 ⟨r1, rfl, hr1, bn⟩
            go_wp2_with fail
            refine hK.out _ _ (HS.out _ (bb.trans bn)) fun hHeld => ?_
            clear hK K
            replace bb := bb.trans bn
            clear bn
            refine tkC 4 ?_
            refine tkC 5 ?_
            refine rd2 1 7 (fun K hK => ?_) (fun K hK => ?_)
            · have yL : V1.cell? ⟨gb, 5, none⟩ = some (.slice v.tA v.tn v.tc) := bb.cell yX (by show gb ≠ gm; omega)
              refine wy ?_
              go_simp
              clear hHeld
              refine hK.out _ _ (held1 _) fun hHeld => ?_
              clear hK K
              clear yL
              refine rd1 7 fun K hK => ?_
              refine wy ?_
              go_simp
              clear hHeld
              go_at_call 40
              (with_reducible refine (H5.out _ bb).mono ?_)
              rintro e V2 ⟨r2, rfl, hr2, bn⟩
              go_wp2_with fail
              refine hK.out _ _ (HS.out _ (bb.trans bn)) fun hHeld => ?_
              clear hK K
              replace bb := bb.trans bn
              clear bn
              refine tkC 8 ?_
              refine tkC 9 ?_
              refine rd1 10 fun K hK => ?_
              refine wy ?_
              go_simp
              clear hHeld
              refine hK.out _ _ (HS.out _ (bb.alloc (by have := bb.size; omega) _)) fun hHeld => ?_
              clear hK K
              obtain ⟨V3, hV⟩ := world_of (hHeld)
              obtain ⟨xs, hcP, hcl, hc1, hnw⟩ : ∃ xs : List Value, True ∧ xs.length = 3 ∧ (∀ u ∈ xs, u.oneCell' = true) ∧ (0 < 1 → ∃ b o, some (⟨V2.heap.size, 0, none⟩ : Addr) = some ⟨b, o, none⟩ ∧ ∀ j u, xs[j]? = some u → V3.cell? ⟨b, o + j, none⟩ = some u) := by
                rw [hV]
                exact ⟨_, trivial, rfl, (by simp [Value.oneCell']), news_new _ _ _⟩
              have bb2 : Up gm wr V3 := by rw [hV]; exact bb.alloc (by have := bb.size; omega) _
              rw [← hV] at hHeld
              rw [← hV]
              clear hV bb
              have bb := bb2
              clear bb2
              refine rd1 11 fun K hK => ?_
              clear hHeld
              have how := (HS0.out.up hgw bb).par.choose_spec
              have hs4 : w.heap.size ≤ V3.heap.size := by have := bb.size; omega
              refine appStep elt_part (by kernel_rfl) _ _ rfl V3 (w.heap.size) _ _ _ (_) _ 1 1 xs (by rfl) (by rfl) how (by rw [hcl]) hnw hc1 (by omega) hs4 ?_
              intro A' c' W4 ho4 hg4 hb4 hat4
              have hpp := (HS0.out.up hgw bb).pushPart hgw ho4 hg4 hb4
              have k4 := hpp.1
              have hp9 := hpp.2
              have g0 := bx k4 5 rfl
              have z0 := k4.frozen 5
              clear ho4 hg4 hb4 hat4 how hs4 hnw hc1 hcl hcP hpp k4
              refine hkG hK (held1 _) fun hHeld => ?_
              clear hK K
              refine tkC 12 ?_
              refine rd1 13 fun K hK => ?_
              refine wy ?_
              go_simp
              clear hHeld
              refine hK.out _ _ (held1 _) fun hHeld => ?_
              clear hK K
              refine wpAnyH_done (by kernel_rfl) ?_ _
              clear hHeld HS g0 z0 bb
              go_wp2_with fail
              go_meet
              exact ⟨_, hp9, hvp, hva, hvd⟩





            · refine wy ?_
              go_simp
              clear hHeld
              go_at_call 40
              (with_reducible refine (H5.out _ bb).mono ?_)
              rintro e V2 ⟨r2, rfl, hr2, bn⟩
              go_wp2_with fail
              refine hK.out _ _ (HS.out _ (bb.trans bn)) fun hHeld => ?_
              clear hK K
              replace bb := bb.trans bn
              clear bn
              refine tkC 8 ?_
              refine tkC 9 ?_
              refine rd2 1 10 (fun K hK => ?_) (fun K hK => ?_)
              · have yL : V2.cell? ⟨gb, 5, none⟩ = some (.slice v.tA v.tn v.tc) := bb.cell yX (by show gb ≠ gm; omega)
                refine wy ?_
                go_simp
                clear hHeld
                refine hK.out _ _ (held1 _) fun hHeld => ?_
                clear hK K
                clear yL
                refine rd1 10 fun K hK => ?_
                refine wy ?_
                go_simp
                clear hHeld
                refine hK.out _ _ (HS.out _ (bb.alloc (by have := bb.size; omega) _)) fun hHeld => ?_
                clear hK K
                obtain ⟨V3, hV⟩ := world_of (hHeld)
                obtain ⟨xs, hcP, hcl, hc1, hnw⟩ : ∃ xs : List Value, True ∧ xs.length = 3 ∧ (∀ u ∈ xs, u.oneCell' = true) ∧ (0 < 1 → ∃ b o, some (⟨V2.heap.size, 0, none⟩ : Addr) = some ⟨b, o, none⟩ ∧ ∀ j u, xs[j]? = some u → V3.cell? ⟨b, o + j, none⟩ = some u) := by
                  rw [hV]
                  exact ⟨_, trivial, rfl, (by simp [Value.oneCell']), news_new _ _ _⟩
                have bb2 : Up gm wr V3 := by rw [hV]; exact bb.alloc (by have := bb.size; omega) _
                rw [← hV] at hHeld
                rw [← hV]
                clear hV bb
                have bb := bb2
                clear bb2
                refine rd1 11 fun K hK => ?_
                clear hHeld
                have how := (HS0.out.up hgw bb).par.choose_spec
                have hs4 : w.heap.size ≤ V3.heap.size := by have := bb.size; omega
                refine appStep elt_part (by kernel_rfl) _ _ rfl V3 (w.heap.size) _ _ _ (_) _ 1 1 xs (by rfl) (by rfl) how (by rw [hcl]) hnw hc1 (by omega) hs4 ?_
                intro A' c' W4 ho4 hg4 hb4 hat4
                have hpp := (HS0.out.up hgw bb).pushPart hgw ho4 hg4 hb4
                have k4 := hpp.1
                have hp9 := hpp.2
                have g0 := bx k4 5 rfl
                have z0 := k4.frozen 5
                clear ho4 hg4 hb4 hat4 how hs4 hnw hc1 hcl hcP hpp k4
                refine hkG hK (held1 _) fun hHeld => ?_
                clear hK K
                refine tkC 12 ?_
                refine rd1 13 fun K hK => ?_
                refine wy ?_
                go_simp
                clear hHeld
                refine hK.out _ _ (held1 _) fun hHeld => ?_
                clear hK K
                refine wpAnyH_done (by kernel_rfl) ?_ _
                clear hHeld HS g0 z0 bb
                go_wp2_with fail
                go_meet
                exact ⟨_, hp9, hvp, hva, hvd⟩




              · refine wy ?_
                go_simp
                clear hHeld
                refine hK.out _ _ (HS.out _ (bb.alloc (by have := bb.size; omega) _)) fun hHeld => ?_
                clear hK K
                obtain ⟨V3, hV⟩ := world_of (hHeld)
                obtain ⟨xs, hcP, hcl, hc1, hnw⟩ : ∃ xs : List Value, True ∧ xs.length = 3 ∧ (∀ u ∈ xs, u.oneCell' = true) ∧ (0 < 1 → ∃ b o, some (⟨V2.heap.size, 0, none⟩ : Addr) = some ⟨b, o, none⟩ ∧ ∀ j u, xs[j]? = some u → V3.cell? ⟨b, o + j, none⟩ = some u) := by
                  rw [hV]
                  exact ⟨_, trivial, rfl, (by simp [Value.oneCell']), news_new _ _ _⟩
                have bb2 : Up gm wr V3 := by rw [hV]; exact bb.alloc (by have := bb.size; omega) _
                rw [← hV] at hHeld
                rw [← hV]
                clear hV bb
                have bb := bb2
                clear bb2
                refine rd1 1 fun K hK => ?_
                have yL : V3.cell? ⟨gb, 5, none⟩ = some (.slice v.tA v.tn v.tc) := bb.cell yX (by show gb ≠ gm; omega)
                refine wy ?_
                go_simp
                clear hHeld
                refine hK.out _ _ (held1 _) fun hHeld => ?_
                clear hK K
                clear yL
                refine rd1 11 fun K hK => ?_
                clear hHeld
                have how := (HS0.out.up hgw bb).par.choose_spec
                have hs4 : w.heap.size ≤ V3.heap.size := by have := bb.size; omega
                refine appStep elt_part (by kernel_rfl) _ _ rfl V3 (w.heap.size) _ _ _ (_) _ 1 1 xs (by rfl) (by rfl) how (by rw [hcl]) hnw hc1 (by omega) hs4 ?_
                intro A' c' W4 ho4 hg4 hb4 hat4
                have hpp := (HS0.out.up hgw bb).pushPart hgw ho4 hg4 hb4
                have k4 := hpp.1
                have hp9 := hpp.2
                have g0 := bx k4 5 rfl
                have z0 := k4.frozen 5
                clear ho4 hg4 hb4 hat4 how hs4 hnw hc1 hcl hcP hpp k4
                refine hkG hK (held1 _) fun hHeld => ?_
                clear hK K
                refine tkC 12 ?_
                refine rd1 13 fun K hK => ?_
                refine wy ?_
                go_simp
                clear hHeld
                refine hK.out _ _ (held1 _) fun hHeld => ?_
                clear hK K
                refine wpAnyH_done (by kernel_rfl) ?_ _
                clear hHeld HS g0 z0 bb
                go_wp2_with fail
                go_meet
                exact ⟨_, hp9, hvp, hva, hvd⟩
       case rest =>
        clear hst hvp hva hvd hvt v
        obtain ⟨v, hst, hvp, hva, hvd⟩ := hcut
        generalize hwcr : wc = wr at *
        clear hwcr wc
        have HC := Lib.hid (show Calls Tryd.prog 40 #[.pointer (some ⟨gm, 0, none⟩), .int .i64 2] wr (NextR gm 2 wr) from HN.out 2 (by omega) (by omega) wr hst.u)
        go_wp2_with fail
        refine HC.out.mono ?_
        rintro e w3 ⟨kx, rfl, hkx, hb⟩
        replace hst := hst.up hgw hb
        clear HC hb
        have hst4 := hst.up hgw ((Up.refl gm w3).alloc (by have := hst.u.size; omega) (.cells #[.int .i64 1, .int .i64 0, .int .i64 1, .int .i64 1, .int .i64 3, .int .i64 0, .int .i64 4, .int .i64 0, .int .i64 2, .int .i64 (kx : Int)] 171))
        have kk := Bk.new w3 171 #[.int .i64 1, .int .i64 0, .int .i64 1, .int .i64 1, .int .i64 3, .int .i64 0, .int .i64 4, .int .i64 0, .int .i64 2, .int .i64 (kx : Int)]
        have hkw := hst.u.size
        have hkg := hst.k.lt
        clear hst
        go_upto_region 8 with fail
        obtain ⟨kn, hkn⟩ : ∃ x, w3.heap.size = x := ⟨_, rfl⟩
        obtain ⟨w5, hw5⟩ : ∃ x, w3.alloc (.cells #[.int .i64 1, .int .i64 0, .int .i64 1, .int .i64 1, .int .i64 3, .int .i64 0, .int .i64 4, .int .i64 0, .int .i64 2, .int .i64 (kx : Int)] 171) = x := ⟨_, rfl⟩
        rw [hw5] at hst4 kk
        rw [hkn] at kk hkw hkg
        try rw [hw5]
        try rw [hkn]
        clear hw5 hkn hkx
        go_upto_region 9 with fail
        go_loopw [6] (fun iv wr => ∃ (v : GlV) (q : Nat), iv = .int .i64 (q : Int) ∧ q ≤ 5 ∧ v.pn ≤ 10 ∧ v.an ≤ q ∧ v.dn ≤ 0 ∧ GlS gm w wr gb v ∧ Bk wr kn 171 #[.int .i64 1, .int .i64 0, .int .i64 1, .int .i64 1, .int .i64 3, .int .i64 0, .int .i64 4, .int .i64 0, .int .i64 2, .int .i64 (kx : Int)]) (fun iv _ => 5 - (intOf iv).toNat)
        case atStart => exact ⟨v, 0, rfl, by omega, hvp, hva, hvd, hst4, kk⟩
        case round =>
          clear hst4 kk hvp hva hvd v
          obtain ⟨v, q, rfl, hq, hvp, hva, hvd, hst, kk⟩ := hrel
          by_cases hq5 : q < 5
          · have q5 : (q : Int) < 5 := by omega
            have q0 : (0 : Int) ≤ (q : Int) := by omega
            obtain ⟨a, b, hab⟩ := pair_at kn kx q hq5
            have HKC := Lib.hid hab
            clear hab
            have HC := Lib.hid (show Calls Tryd.prog 40 #[.pointer (some ⟨gm, 0, none⟩), .int .i64 3] wr (NextR gm 3 wr) from HN.out 3 (by omega) (by omega) wr hst.u)
            go_wp2_with fail
            refine HC.out.mono ?_
            rintro e w3 ⟨r, rfl, hr, hb⟩
            replace hst := hst.up hgw hb
            replace kk := hb.bk kk (by omega)
            clear HC hb
            obtain ⟨wr, hwr⟩ : ∃ x, w3 = x := ⟨_, rfl⟩
            rw [hwr] at hst kk ⊢
            clear hwr
            obtain ⟨ya, yb⟩ := HKC.out wr kk
            by_cases hr0 : r = 0
            · have tr : ((r : Int) == 0) = true := by simp; omega
              have tr' : (r == 0) = true := by simpa using hr0
              obtain ⟨mk, hmk⟩ : ∃ x, v.mrk = x := ⟨_, rfl⟩
              have y2 : wr.cell? ⟨gb, 2, none⟩ = some (.bool v.mrk) := bx hst.k 2 rfl
              rw [hmk] at y2
              by_cases ha2 : a = 2 ∧ mk = false
              · obtain ⟨ha2, rfl⟩ := ha2
                have ta : (a != 2) = false := by simpa using ha2
                have ta' : (a == 2) = true := by simpa using ha2
                clear ha2 hmk
                go_wp2
                go_roundw
                case rel => exact ⟨v, q + 1, by go_num, by omega, hvp, by omega, hvd, hst, kk⟩
                case measure => simp [intOf] <;> omega
              · have hor : ((a != 2) = false ∧ (a == 2) = true ∧ mk = true) ∨ ((a != 2) = true ∧ (a == 2) = false) := by
                  by_cases h : a = 2
                  · cases mk
                    · exact absurd ⟨h, rfl⟩ ha2
                    · exact .inl ⟨by simpa using h, by simpa using h, rfl⟩
                  · exact .inr ⟨by simpa using h, by simpa using h⟩
                clear ha2 hmk
                rcases hor with ⟨ta, ta', rfl⟩ | ⟨ta, ta'⟩
                all_goals
                  have yX := bx hst.k 6 rfl
                  have H21 := Lib.hid fun (W : World) (bW : Up gm wr W) => (show Calls Tryd.prog 40 #[.pointer (some ⟨gm, 0, none⟩), .int .i64 21] W (NextR gm 21 W) from HN.out 21 (by omega) (by omega) W (hst.u.trans bW))
                  have HS0 := Lib.hid hst
                  have hwl := hst.u.size
                  have hwg : gm < wr.heap.size := by omega
                  have HKB := Lib.hid kk
                  clear hst kk
                  go_upto_region 12 with fail
                  have HS := Lib.hid fun (W : World) (bW : Up gm wr W) => (show Held1 W ∧ W.cell? ⟨kn, q * 2, none⟩ = some (.int .i64 a) ∧ W.cell? ⟨kn, q * 2 + 1, none⟩ = some (.int .i64 b) from ⟨held1 _, HKC.out W (bW.bk HKB.out (by omega))⟩)
                  have bb := Up.refl gm wr
                  refine wp_region_held_drew (S := fun w' => Held1 w' ∧ w'.cell? ⟨kn, q * 2, none⟩ = some (.int .i64 a) ∧ w'.cell? ⟨kn, q * 2 + 1, none⟩ = some (.int .i64 b)) (by kernel_rfl) ?_ (fun hHeld => ?_)
                  · exact HS.out _ (bb.drewN 1)
                  replace bb := bb.drewN 1
                  change Up _ _ wr.drew at bb
                  generalize hw0 : wr.drew = W0 at hHeld bb ⊢
                  clear hw0
                  refine tkC 0 ?_
                  refine tkC 2 ?_
                  refine tkC 3 ?_
                  refine tkC 4 ?_
                  refine tkC 5 ?_
                  refine tkC 6 ?_
                  refine tkC 7 ?_
                  refine tkC 8 ?_
                  refine tkC 9 ?_
                  refine tkC 10 ?_
                  refine tkC 11 ?_
                  refine tkC 12 ?_
                  refine tkC 15 ?_
                  refine rd2 1 13 (fun K hK => ?_) (fun K hK => ?_)
                  · have yL : W0.cell? ⟨gb, 6, none⟩ = some (.slice v.aA v.an v.ac) := bb.cell yX (by show gb ≠ gm; omega)
                    refine wy ?_
                    go_simp
                    clear hHeld
                    refine hK.out _ _ (HS.out _ bb) fun hHeld => ?_
                    clear hK K
                    clear yL
                    refine rd1 13 fun K hK => ?_
                    refine wy ?_
                    go_simp
                    clear hHeld
                    go_at_call 40
                    (with_reducible refine (H21.out _ bb).mono ?_)
                    rintro e V1 ⟨r1, rfl, hr1, bn⟩
                    go_wp2_with fail
                    refine hK.out _ _ (HS.out _ (bb.trans bn)) fun hHeld => ?_
                    clear hK K
                    replace bb := bb.trans bn
                    clear bn
                    refine tkC 14 ?_
                    refine rd1 16 fun K hK => ?_
                    refine wy ?_
                    go_simp
                    clear hHeld
                    go_at_call 40
                    (with_reducible refine (H21.out _ bb).mono ?_)
                    rintro e V2 ⟨r2, rfl, hr2, bn⟩
                    go_wp2_with fail
                    refine hK.out _ _ (HS.out _ (bb.trans bn)) fun hHeld => ?_
                    clear hK K
                    replace bb := bb.trans bn
                    clear bn
                    refine tkC 17 ?_
                    refine tkC 18 ?_
                    refine tkC 19 ?_
                    refine rd1 20 fun K hK => ?_
                    refine wy ?_
                    go_simp
                    clear hHeld
                    refine hK.out _ _ (HS.out _ (bb.alloc (by have := bb.size; omega) _)) fun hHeld => ?_
                    clear hK K
                    obtain ⟨V3, hV⟩ := world_of (hHeld.1)
                    obtain ⟨xs, hcP, hcl, hc1, hnw⟩ : ∃ xs : List Value, (∃ x : Anc, EAnc xs x) ∧ xs.length = 4 ∧ (∀ u ∈ xs, u.oneCell' = true) ∧ (0 < 1 → ∃ b o, some (⟨V2.heap.size, 0, none⟩ : Addr) = some ⟨b, o, none⟩ ∧ ∀ j u, xs[j]? = some u → V3.cell? ⟨b, o + j, none⟩ = some u) := by
                      rw [hV]
                      exact ⟨_, ⟨⟨_, _, _, _⟩, rfl⟩, rfl, (by simp [Value.oneCell']), news_new _ _ _⟩
                    have bb2 : Up gm wr V3 := by rw [hV]; exact bb.alloc (by have := bb.size; omega) _
                    rw [← hV] at hHeld
                    rw [← hV]
                    clear hV bb
                    have bb := bb2
                    clear bb2
                    refine rd1 21 fun K hK => ?_
                    clear hHeld
                    have how := (HS0.out.up hgw bb).anc.choose_spec.1
                    have hs4 : w.heap.size ≤ V3.heap.size := by have := bb.size; omega
                    refine appStep elt_anch (by kernel_rfl) _ _ rfl V3 (w.heap.size) _ _ _ (_) _ 1 1 xs (by rfl) (by rfl) how (by rw [hcl]) hnw hc1 (by omega) hs4 ?_
                    intro A' c' W4 ho4 hg4 hb4 hat4
                    have hpp := (HS0.out.up hgw bb).pushAnc hgw (HS0.out.up hgw bb).anc.choose_spec.1 (HS0.out.up hgw bb).anc.choose_spec.2 hcP ho4 hg4 hb4
                    have k4 := hpp.1
                    have hp9 := hpp.2
                    have g0 := bx k4 6 rfl
                    have z0 := k4.frozen 6
                    have kk4 := (bb.bk HKB.out (by omega)).grown hg4 ((bb.bk HKB.out (by omega)).ne_own (by decide) how)
                    clear ho4 hg4 hb4 hat4 how hs4 hnw hc1 hcl hcP hpp k4
                    refine hkG hK (⟨held1 _, HKC.out _ kk4⟩) fun hHeld => ?_
                    clear hK K
                    refine tkC 22 ?_
                    refine rd1 23 fun K hK => ?_
                    have kk5 := fun y => kk4.far (p := ⟨gb, 6, none⟩) (by show kn ≠ gb; omega) y
                    refine wy ?_
                    go_simp
                    clear hHeld
                    refine hK.out _ _ (⟨held1 _, HKC.out _ (kk5 _)⟩) fun hHeld => ?_
                    clear hK K
                    refine wpAnyH_done (by kernel_rfl) ?_ _
                    clear hHeld HS g0 z0 bb kk4
                    go_wp2_with fail
                    go_roundw
                    case rel => exact ⟨{ v with aA := A', an := v.an + 1, ac := c' }, q + 1, by go_num, by omega, hvp, (by show v.an + 1 ≤ q + 1; omega), hvd, hp9, kk5 _⟩
                    case measure => simp [intOf] <;> omega






                  · refine wy ?_
                    go_simp
                    clear hHeld
                    go_at_call 40
                    (with_reducible refine (H21.out _ bb).mono ?_)
                    rintro e V1 ⟨r1, rfl, hr1, bn⟩
                    go_wp2_with fail
                    refine hK.out _ _ (HS.out _ (bb.trans bn)) fun hHeld => ?_
                    clear hK K
                    replace bb := bb.trans bn
                    clear bn
                    refine tkC 14 ?_
                    refine rd2 1 16 (fun K hK => ?_) (fun K hK => ?_)
                    · have yL : V1.cell? ⟨gb, 6, none⟩ = some (.slice v.aA v.an v.ac) := bb.cell yX (by show gb ≠ gm; omega)
                      refine wy ?_
                      go_simp
                      clear hHeld
                      refine hK.out _ _ (HS.out _ bb) fun hHeld => ?_
                      clear hK K
                      clear yL
                      refine rd1 16 fun K hK => ?_
                      refine wy ?_
                      go_simp
                      clear hHeld
                      go_at_call 40
                      (with_reducible refine (H21.out _ bb).mono ?_)
                      rintro e V2 ⟨r2, rfl, hr2, bn⟩
                      go_wp2_with fail
                      refine hK.out _ _ (HS.out _ (bb.trans bn)) fun hHeld => ?_
                      clear hK K
                      replace bb := bb.trans bn
                      clear bn
                      refine tkC 17 ?_
                      refine tkC 18 ?_
                      refine tkC 19 ?_
                      refine rd1 20 fun K hK => ?_
                      refine wy ?_
                      go_simp
                      clear hHeld
                      refine hK.out _ _ (HS.out _ (bb.alloc (by have := bb.size; omega) _)) fun hHeld => ?_
                      clear hK K
                      obtain ⟨V3, hV⟩ := world_of (hHeld.1)
                      obtain ⟨xs, hcP, hcl, hc1, hnw⟩ : ∃ xs : List Value, (∃ x : Anc, EAnc xs x) ∧ xs.length = 4 ∧ (∀ u ∈ xs, u.oneCell' = true) ∧ (0 < 1 → ∃ b o, some (⟨V2.heap.size, 0, none⟩ : Addr) = some ⟨b, o, none⟩ ∧ ∀ j u, xs[j]? = some u → V3.cell? ⟨b, o + j, none⟩ = some u) := by
                        rw [hV]
                        exact ⟨_, ⟨⟨_, _, _, _⟩, rfl⟩, rfl, (by simp [Value.oneCell']), news_new _ _ _⟩
                      have bb2 : Up gm wr V3 := by rw [hV]; exact bb.alloc (by have := bb.size; omega) _
                      rw [← hV] at hHeld
                      rw [← hV]
                      clear hV bb
                      have bb := bb2
                      clear bb2
                      refine rd1 21 fun K hK => ?_
                      clear hHeld
                      have how := (HS0.out.up hgw bb).anc.choose_spec.1
                      have hs4 : w.heap.size ≤ V3.heap.size := by have := bb.size; omega
                      refine appStep elt_anch (by kernel_rfl) _ _ rfl V3 (w.heap.size) _ _ _ (_) _ 1 1 xs (by rfl) (by rfl) how (by rw [hcl]) hnw hc1 (by omega) hs4 ?_
                      intro A' c' W4 ho4 hg4 hb4 hat4
                      have hpp := (HS0.out.up hgw bb).pushAnc hgw (HS0.out.up hgw bb).anc.choose_spec.1 (HS0.out.up hgw bb).anc.choose_spec.2 hcP ho4 hg4 hb4
                      have k4 := hpp.1
                      have hp9 := hpp.2
                      have g0 := bx k4 6 rfl
                      have z0 := k4.frozen 6
                      have kk4 := (bb.bk HKB.out (by omega)).grown hg4 ((bb.bk HKB.out (by omega)).ne_own (by decide) how)
                      clear ho4 hg4 hb4 hat4 how hs4 hnw hc1 hcl hcP hpp k4
                      refine hkG hK (⟨held1 _, HKC.out _ kk4⟩) fun hHeld => ?_
                      clear hK K
                      refine tkC 22 ?_
                      refine rd1 23 fun K hK => ?_
                      have kk5 := fun y => kk4.far (p := ⟨gb, 6, none⟩) (by show kn ≠ gb; omega) y
                      refine wy ?_
                      go_simp
                      clear hHeld
                      refine hK.out _ _ (⟨held1 _, HKC.out _ (kk5 _)⟩) fun hHeld => ?_
                      clear hK K
                      refine wpAnyH_done (by kernel_rfl) ?_ _
                      clear hHeld HS g0 z0 bb kk4
                      go_wp2_with fail
                      go_roundw
                      case rel => exact ⟨{ v with aA := A', an := v.an + 1, ac := c' }, q + 1, by go_num, by omega, hvp, (by show v.an + 1 ≤ q + 1; omega), hvd, hp9, kk5 _⟩
                      case measure => simp [intOf] <;> omega





                    · refine wy ?_
                      go_simp
                      clear hHeld
                      go_at_call 40
                      (with_reducible refine (H21.out _ bb).mono ?_)
                      rintro e V2 ⟨r2, rfl, hr2, bn⟩
                      go_wp2_with fail
                      refine hK.out _ _ (HS.out _ (bb.trans bn)) fun hHeld => ?_
                      clear hK K
                      replace bb := bb.trans bn
                      clear bn
                      refine tkC 17 ?_
                      refine tkC 18 ?_
                      refine tkC 19 ?_
                      refine rd2 1 20 (fun K hK => ?_) (fun K hK => ?_)
                      · have yL : V2.cell? ⟨gb, 6, none⟩ = some (.slice v.aA v.an v.ac) := bb.cell yX (by show gb ≠ gm; omega)
                        refine wy ?_
                        go_simp
                        clear hHeld
                        refine hK.out _ _ (HS.out _ bb) fun hHeld => ?_
                        clear hK K
                        clear yL
                        refine rd1 20 fun K hK => ?_
                        refine wy ?_
                        go_simp
                        clear hHeld
                        refine hK.out _ _ (HS.out _ (bb.alloc (by have := bb.size; omega) _)) fun hHeld => ?_
                        clear hK K
                        obtain ⟨V3, hV⟩ := world_of (hHeld.1)
                        obtain ⟨xs, hcP, hcl, hc1, hnw⟩ : ∃ xs : List Value, (∃ x : Anc, EAnc xs x) ∧ xs.length = 4 ∧ (∀ u ∈ xs, u.oneCell' = true) ∧ (0 < 1 → ∃ b o, some (⟨V2.heap.size, 0, none⟩ : Addr) = some ⟨b, o, none⟩ ∧ ∀ j u, xs[j]? = some u → V3.cell? ⟨b, o + j, none⟩ = some u) := by
                          rw [hV]
                          exact ⟨_, ⟨⟨_, _, _, _⟩, rfl⟩, rfl, (by simp [Value.oneCell']), news_new _ _ _⟩
                        have bb2 : Up gm wr V3 := by rw [hV]; exact bb.alloc (by have := bb.size; omega) _
                        rw [← hV] at hHeld
                        rw [← hV]
                        clear hV bb
                        have bb := bb2
                        clear bb2
                        refine rd1 21 fun K hK => ?_
                        clear hHeld
                        have how := (HS0.out.up hgw bb).anc.choose_spec.1
                        have hs4 : w.heap.size ≤ V3.heap.size := by have := bb.size; omega
                        refine appStep elt_anch (by kernel_rfl) _ _ rfl V3 (w.heap.size) _ _ _ (_) _ 1 1 xs (by rfl) (by rfl) how (by rw [hcl]) hnw hc1 (by omega) hs4 ?_
                        intro A' c' W4 ho4 hg4 hb4 hat4
                        have hpp := (HS0.out.up hgw bb).pushAnc hgw (HS0.out.up hgw bb).anc.choose_spec.1 (HS0.out.up hgw bb).anc.choose_spec.2 hcP ho4 hg4 hb4
                        have k4 := hpp.1
                        have hp9 := hpp.2
                        have g0 := bx k4 6 rfl
                        have z0 := k4.frozen 6
                        have kk4 := (bb.bk HKB.out (by omega)).grown hg4 ((bb.bk HKB.out (by omega)).ne_own (by decide) how)
                        clear ho4 hg4 hb4 hat4 how hs4 hnw hc1 hcl hcP hpp k4
                        refine hkG hK (⟨held1 _, HKC.out _ kk4⟩) fun hHeld => ?_
                        clear hK K
                        refine tkC 22 ?_
                        refine rd1 23 fun K hK => ?_
                        have kk5 := fun y => kk4.far (p := ⟨gb, 6, none⟩) (by show kn ≠ gb; omega) y
                        refine wy ?_
                        go_simp
                        clear hHeld
                        refine hK.out _ _ (⟨held1 _, HKC.out _ (kk5 _)⟩) fun hHeld => ?_
                        clear hK K
                        refine wpAnyH_done (by kernel_rfl) ?_ _
                        clear hHeld HS g0 z0 bb kk4
                        go_wp2_with fail
                        go_roundw
                        case rel => exact ⟨{ v with aA := A', an := v.an + 1, ac := c' }, q + 1, by go_num, by omega, hvp, (by show v.an + 1 ≤ q + 1; omega), hvd, hp9, kk5 _⟩
                        case measure => simp [intOf] <;> omega




                      · refine wy ?_
                        go_simp
                        clear hHeld
                        refine hK.out _ _ (HS.out _ (bb.alloc (by have := bb.size; omega) _)) fun hHeld => ?_
                        clear hK K
                        obtain ⟨V3, hV⟩ := world_of (hHeld.1)
                        obtain ⟨xs, hcP, hcl, hc1, hnw⟩ : ∃ xs : List Value, (∃ x : Anc, EAnc xs x) ∧ xs.length = 4 ∧ (∀ u ∈ xs, u.oneCell' = true) ∧ (0 < 1 → ∃ b o, some (⟨V2.heap.size, 0, none⟩ : Addr) = some ⟨b, o, none⟩ ∧ ∀ j u, xs[j]? = some u → V3.cell? ⟨b, o + j, none⟩ = some u) := by
                          rw [hV]
                          exact ⟨_, ⟨⟨_, _, _, _⟩, rfl⟩, rfl, (by simp [Value.oneCell']), news_new _ _ _⟩
                        have bb2 : Up gm wr V3 := by rw [hV]; exact bb.alloc (by have := bb.size; omega) _
                        rw [← hV] at hHeld
                        rw [← hV]
                        clear hV bb
                        have bb := bb2
                        clear bb2
                        refine rd1 1 fun K hK => ?_
                        have yL : V3.cell? ⟨gb, 6, none⟩ = some (.slice v.aA v.an v.ac) := bb.cell yX (by show gb ≠ gm; omega)
                        refine wy ?_
                        go_simp
                        clear hHeld
                        refine hK.out _ _ (HS.out _ bb) fun hHeld => ?_
                        clear hK K
                        clear yL
                        refine rd1 21 fun K hK => ?_
                        clear hHeld
                        have how := (HS0.out.up hgw bb).anc.choose_spec.1
                        have hs4 : w.heap.size ≤ V3.heap.size := by have := bb.size; omega
                        refine appStep elt_anch (by kernel_rfl) _ _ rfl V3 (w.heap.size) _ _ _ (_) _ 1 1 xs (by rfl) (by rfl) how (by rw [hcl]) hnw hc1 (by omega) hs4 ?_
                        intro A' c' W4 ho4 hg4 hb4 hat4
                        have hpp := (HS0.out.up hgw bb).pushAnc hgw (HS0.out.up hgw bb).anc.choose_spec.1 (HS0.out.up hgw bb).anc.choose_spec.2 hcP ho4 hg4 hb4
                        have k4 := hpp.1
                        have hp9 := hpp.2
                        have g0 := bx k4 6 rfl
                        have z0 := k4.frozen 6
                        have kk4 := (bb.bk HKB.out (by omega)).grown hg4 ((bb.bk HKB.out (by omega)).ne_own (by decide) how)
                        clear ho4 hg4 hb4 hat4 how hs4 hnw hc1 hcl hcP hpp k4
                        refine hkG hK (⟨held1 _, HKC.out _ kk4⟩) fun hHeld => ?_
                        clear hK K
                        refine tkC 22 ?_
                        refine rd1 23 fun K hK => ?_
                        have kk5 := fun y => kk4.far (p := ⟨gb, 6, none⟩) (by show kn ≠ gb; omega) y
                        refine wy ?_
                        go_simp
                        clear hHeld
                        refine hK.out _ _ (⟨held1 _, HKC.out _ (kk5 _)⟩) fun hHeld => ?_
                        clear hK K
                        refine wpAnyH_done (by kernel_rfl) ?_ _
                        clear hHeld HS g0 z0 bb kk4
                        go_wp2_with fail
                        go_roundw
                        case rel => exact ⟨{ v with aA := A', an := v.an + 1, ac := c' }, q + 1, by go_num, by omega, hvp, (by show v.an + 1 ≤ q + 1; omega), hvd, hp9, kk5 _⟩
                        case measure => simp [intOf] <;> omega
            · have tr : ((r : Int) == 0) = false := by simp; omega
              have tr' : (r == 0) = false := by simpa using hr0
              clear hr0
              go_wp2
              go_roundw
              case rel => exact ⟨v, q + 1, by go_num, by omega, hvp, by omega, hvd, hst, kk⟩
              case measure => simp [intOf] <;> omega
          · have q5 : ¬ (q : Int) < 5 := by omega
            clear kk hkw hkg hq hq5
            go_upto_region 14 with fail
            obtain ⟨w5, hw5⟩ : ∃ x, wr = x := ⟨_, rfl⟩
            rw [hw5] at hst ⊢
            clear hw5 wr
            go_loopw [7] (fun iv wr => ∃ (v : GlV) (r : Nat), iv = .int .i64 (r : Int) ∧ r ≤ s.f.n6 ∧ v.pn ≤ 10 ∧ v.dn ≤ 11 * r ∧ GlS gm w wr gb v) (fun iv _ => s.f.n6 - (intOf iv).toNat)
            case atStart => exact ⟨v, 0, rfl, by omega, hvp, by omega, hst⟩
            case round =>
              clear hst hvp hva hvd v
              obtain ⟨v, r, rfl, hr, hvp, hvd, hst⟩ := hrel
              have y8 : wr.cell? ⟨gm, 8, none⟩ = some (.slice s.f.a6 s.f.n6 s.f.c6) := (HM.out wr hst.u).cell 8 (by decide) rfl
              by_cases hrn : r < s.f.n6
              · have rn : (r : Int) < (s.f.n6 : Int) := by omega
                go_upto_region 17 with fail
                obtain ⟨pn, hpn⟩ : ∃ x, v.pn = x := ⟨_, rfl⟩
                obtain ⟨w5, hw5⟩ : ∃ x, wr = x := ⟨_, rfl⟩
                rw [hw5] at hst ⊢
                clear hw5 wr y8 rn
                go_loopw [8] (fun iv wr => ∃ (v : GlV) (p : Nat), iv = .int .i64 ((p : Int) - 1) ∧ p ≤ pn + 1 ∧ v.pn = pn ∧ v.dn ≤ 11 * r + p ∧ GlS gm w wr gb v) (fun iv _ => pn + 1 - (intOf iv + 1).toNat)
                case atStart => exact ⟨v, 0, rfl, by omega, hpn, by omega, hst⟩
                case round =>
                  clear hst hvd
                  have hpn10 : pn ≤ 10 := by omega
                  clear hvp hpn
                  obtain ⟨v, p, rfl, hp, hvq, hvd, hst⟩ := hrel
                  have y3 : wr.cell? ⟨gb, 3, none⟩ = some (.slice v.pA v.pn v.pc) := bx hst.k 3 rfl
                  rw [hvq] at y3
                  have HVQ := Lib.hid hvq
                  clear hvq
                  by_cases hpl : p < pn + 1
                  · have pl : (p : Int) - 1 < (pn : Int) := by omega
                    have HC := Lib.hid (show Calls Tryd.prog 40 #[.pointer (some ⟨gm, 0, none⟩), .int .i64 3] wr (NextR gm 3 wr) from HN.out 3 (by omega) (by omega) wr hst.u)
                    go_wp2_with fail
                    refine HC.out.mono ?_
                    rintro e w3 ⟨z, rfl, hz, hb⟩
                    replace hst := hst.up hgw hb
                    clear HC hb y3
                    obtain ⟨wr, hwr⟩ : ∃ x, w3 = x := ⟨_, rfl⟩
                    rw [hwr] at hst ⊢
                    clear hwr
                    by_cases hz0 : z = 0
                    · have tz : ((z : Int) == 0) = true := by simp; omega
                      have tz' : (z == 0) = true := by simpa using hz0
                      clear hz0
                      have HC := Lib.hid (show Calls Tryd.prog 40 #[.pointer (some ⟨gm, 0, none⟩), .int .i64 41] wr (NextR gm 41 wr) from HN.out 41 (by omega) (by omega) wr hst.u)
                      go_wp2_with fail
                      refine HC.out.mono ?_
                      rintro e w4 ⟨x, rfl, hx, hb⟩
                      have hst4 := hst.up hgw hb
                      have hw4 := hst4.u.size
                      have hg4 := hst4.k.lt
                      have hne : ∀ b, v.dA.map (·.block) = some b → b ≠ w4.heap.size := fun b e => by
                        obtain ⟨cs, hd⟩ := hst4.del
                        have := (hd.blk b e).2.1
                        omega
                      have hb6 := below_lit w4 w4 (Below.refl _ _) (.cells #[.int .i64 (r : Int), .int .i64 ((p : Int) - 1), .int .i64 ((x : Int) - 20), .int .i64 0] 176)
                      have hk6 : Bk (w4.alloc (.cells #[.int .i64 (r : Int), .int .i64 ((p : Int) - 1), .int .i64 ((x : Int) - 20), .int .i64 0] 176)) w4.heap.size 176 #[.int .i64 (r : Int), .int .i64 ((p : Int) - 1), .int .i64 ((x : Int) - 20), .int .i64 0] := Bk.new w4 176 #[.int .i64 (r : Int), .int .i64 ((p : Int) - 1), .int .i64 ((x : Int) - 20), .int .i64 0]
                      have hst6 := hst4.up hgw ((Up.refl gm w4).below hb6 (Nat.le_refl _) (by omega))
                      have HD := Lib.hid (And.intro hk6 (And.intro hst6 hne))
                      clear HC hb hst hst4 hb6 hk6 hst6 hne
                      go_upto_if 129 with fail
                      obtain ⟨hk6, hst6, hne⟩ := HD.out
                      clear HD
                      obtain ⟨w6, hw6⟩ : ∃ W, w4.alloc (.cells #[.int .i64 (r : Int), .int .i64 ((p : Int) - 1), .int .i64 ((x : Int) - 20), .int .i64 0] 176) = W := ⟨_, rfl⟩
                      rw [hw6] at hk6 hst6 ⊢
                      clear hw6
                      obtain ⟨gd, hgd⟩ : ∃ x, w4.heap.size = x := ⟨_, rfl⟩
                      rw [hgd] at hk6 hw4 hg4 hne
                      try rw [hgd]
                      clear hgd w4
                      obtain ⟨xx, hxx⟩ : ∃ y : Int, (x : Int) - 20 = y := ⟨_, rfl⟩
                      rw [hxx] at hk6
                      try rw [hxx]
                      clear hxx
                      go_cut [] from 128 to 133 (fun wx => ∃ y : Int, Bk wx gd 176 #[.int .i64 (r : Int), .int .i64 ((p : Int) - 1), .int .i64 xx, .int .i64 y] ∧ GlS gm w wx gb v)
                      case first =>
                        by_cases hp0 : p = 0
                        · have t9 : decide ((0 : Int) ≤ (p : Int) - 1) = false := by simp; omega
                          have i9 : ¬ (0 : Int) ≤ (p : Int) - 1 := by omega
                          clear hp0
                          go_wp2
                          go_meet
                          exact ⟨0, hk6, hst6⟩
                        · have t9 : decide ((0 : Int) ≤ (p : Int) - 1) = true := by simp; omega
                          have i9 : (0 : Int) ≤ (p : Int) - 1 := by omega
                          clear hp0
                          have HC := Lib.hid (show Calls Tryd.prog 40 #[.pointer (some ⟨gm, 0, none⟩), .int .i64 41] w6 (NextR gm 41 w6) from HN.out 41 (by omega) (by omega) w6 hst6.u)
                          go_wp2_with fail
                          refine HC.out.mono ?_
                          rintro e w7 ⟨y, rfl, hy, hb⟩
                          have hst7 := hst6.up hgw hb
                          have hk7 := hb.bk hk6 (by omega)
                          have y3 := bx hk7 3 rfl
                          have z3 := hk7.frozen 3
                          have HF := Lib.hid (And.intro (fun u => hk7.set_ 3 u) (fun u => hst7.far hgw hk7 (i := 3) (y := u) (by omega) (by omega) hne))
                          clear HC hb hst6 hk6 hst7 hk7 hne
                          go_wp2
                          go_meet
                          exact ⟨_, HF.out.1 _, HF.out.2 _⟩
                      case rest =>
                        clear hk6 hst6 hne
                        obtain ⟨y, hk, hst⟩ := hcut
                        generalize hwcr : wc = wr at *
                        clear hwcr wc
                        have y7 : wr.cell? ⟨gb, 7, none⟩ = some (.slice v.dA v.dn v.dc) := bx hst.k 7 rfl
                        have d0 := bx hk 0 rfl
                        have d1 := bx hk 1 rfl
                        have d2 := bx hk 2 rfl
                        have d3 := bx hk 3 rfl
                        have hu7 := (Up.refl gm wr).alloc (by have := hst.u.size; omega) (.cells #[.int .i64 (r : Int), .int .i64 ((p : Int) - 1), .int .i64 xx, .int .i64 y] 176)
                        have hst7 := hst.up hgw hu7
                        have hs3 : w.heap.size ≤ (wr.alloc (.cells #[.int .i64 (r : Int), .int .i64 ((p : Int) - 1), .int .i64 xx, .int .i64 y] 176)).heap.size := hst7.u.size
                        have hd7 := hst7.del.choose_spec
                        clear hk hst hu7
                        go_wp2_with (at_builtin; refine appP elt_delta rfl _ _ rfl (wr.alloc (.cells #[.int .i64 (r : Int), .int .i64 ((p : Int) - 1), .int .i64 xx, .int .i64 y] 176)) w.heap.size _ _ _ _ _ 1 1 [.int .i64 (r : Int), .int .i64 ((p : Int) - 1), .int .i64 xx, .int .i64 y] (by rfl) (by rfl) hd7 rfl (fun _ => news_new _ _ _ (by omega)) (by simp [Value.oneCell']) (by omega) hs3 ?_; intro A' c' W4 ho4 hg4 hb4 hat4; obtain ⟨k4, hp9⟩ := hst7.pushDel hgw hd7 ho4 hg4 hb4; have g7 := bx k4 7 rfl; have z7 := k4.frozen 7)
                        clear ho4 hg4 hb4 hat4 hst7 hs3 hd7 k4 y7 d0 d1 d2 d3 g7 z7
                        go_roundw
                        case rel => exact ⟨{ v with dA := A', dn := v.dn + 1, dc := c' }, p + 1, by go_num, by omega, HVQ.out, (by show v.dn + 1 ≤ 11 * r + (p + 1); omega), hp9⟩
                        case measure => simp [intOf] <;> omega
                    · have tz : ((z : Int) == 0) = false := by simp; omega
                      have tz' : (z == 0) = false := by simpa using hz0
                      clear hz0
                      go_wp2
                      go_roundw
                      case rel => exact ⟨v, p + 1, by go_num, by omega, HVQ.out, by omega, hst⟩
                      case measure => simp [intOf] <;> omega
                  · have pl : ¬ (p : Int) - 1 < (pn : Int) := by omega
                    go_wp2
                    go_roundw
                    case rel => exact ⟨v, r + 1, by go_num, by omega, by rw [HVQ.out]; omega, by omega, hst⟩
                    case measure => simp [intOf] <;> omega
              · have rn : ¬ (r : Int) < (s.f.n6 : Int) := by omega
                go_upto_region 24 with fail
                clear rn y8
                obtain ⟨a', l', _, hkm, _⟩ := HM.out wr hst.u
                have y11 := bx hkm 11 rfl
                have z11 := hkm.frozen 11
                have hst5 := hst.up hgw (Up.loops wr gm 2 (by omega) (by omega))
                clear hkm hst
                go_upto_region 25 with fail
                clear y11 z11
                obtain ⟨wr', hwr'⟩ : ∃ x, wr.setCell ⟨gm, 11, none⟩ (.int .i64 2) = x := ⟨_, rfl⟩
                rw [hwr'] at hst5 ⊢
                clear hwr'
                obtain ⟨wr, hwr⟩ : ∃ x, wr' = x := ⟨_, rfl⟩
                rw [hwr] at hst5 ⊢
                clear hwr
                have hst := hst5
                clear hst5
                have HHX := Lib.hid fun (W : World) (bW : Up gm wr W) => (show Calls Tryd.prog 41 #[.pointer (some ⟨gm, 0, none⟩), .int .i64 (v.pn : Int), .int .i64 (s.f.n7 : Int), .int .i64 6] W (InsR gm 54 W) from HH.out v.pn s.f.n7 (by omega) (by omega) W (hst.u.trans bW))
                have HS0 := Lib.hid hst
                have hwl := hst.u.size
                have hwg : gm < wr.heap.size := by omega
                clear hst
                have HS := Lib.hid fun (W : World) (bW : Up gm wr W) => (show Held1 W ∧ W.cell? ⟨gb, 3, none⟩ = some (.slice v.pA v.pn v.pc) ∧ W.cell? ⟨gm, 9, none⟩ = some (.slice s.f.a7 s.f.n7 s.f.c7) from ⟨held1 _, bx (bW.bk HS0.out.k (by omega)) 3 rfl, (HM.out W (HS0.out.u.trans bW)).cell 9 (by decide) rfl⟩)
                have bb := Up.refl gm wr
                refine wp_region_held_drew (S := fun w' => Held1 w' ∧ w'.cell? ⟨gb, 3, none⟩ = some (.slice v.pA v.pn v.pc) ∧ w'.cell? ⟨gm, 9, none⟩ = some (.slice s.f.a7 s.f.n7 s.f.c7)) (by kernel_rfl) ?_ (fun hHeld => ?_)
                · exact HS.out _ (bb.drewN 1)
                replace bb := bb.drewN 1
                change Up _ _ wr.drew at bb
                generalize hw0 : wr.drew = W0 at hHeld bb ⊢
                clear hw0
                refine tkC 0 ?_
                refine tkC 1 ?_
                refine tkC 2 ?_
                refine tkC 3 ?_
                refine tkC 4 ?_
                refine tkC 5 ?_
                refine tkC 6 ?_
                refine tkC 7 ?_
                refine tkC 8 ?_
                refine tkC 9 ?_
                refine tkC 10 ?_
                refine rd1 11 fun K hK => ?_
                refine wy ?_
                go_simp
                clear hHeld
                go_at_call 41
                (with_reducible refine (HHX.out _ bb).mono ?_)
                rintro e V1 ⟨hA, hn9, hc, hcs, rfl, hhn, hho, hh1, bn⟩
                go_wp2_with fail
                refine hK.out _ _ (HS.out _ (bb.trans bn)) fun hHeld => ?_
                clear hK K
                replace bb := bb.trans bn
                clear bn
                refine tkC 12 ?_
                refine rd1 13 fun K hK => ?_
                have kx := (HS0.out.up hgw bb)
                have g8 := bx kx.k 8 rfl
                have z8 := kx.k.frozen 8
                have hp9 := kx.set (i := 8) (y := .slice hA hn9 hc) (v' := { v with hA := hA, hn := hn9, hc := hc }) hgw rfl ⟨rfl, rfl, rfl⟩ ⟨rfl, rfl, rfl⟩ ⟨rfl, rfl, rfl⟩
                refine wy ?_
                go_simp
                clear hHeld
                refine hK.out _ _ (⟨held1 _, bx hp9.k 3 rfl, (HM.out _ hp9.u).cell 9 (by decide) rfl⟩) fun hHeld => ?_
                clear hK K
                refine wpAnyH_done (by kernel_rfl) ?_ _
                clear hHeld HS g8 z8 bb kx hho hh1 HHX HS0 hwl hwg
                go_upto_region 26 with fail
                obtain ⟨wr, hwr⟩ : ∃ x, V1.setCell ⟨gb, 8, none⟩ (.slice hA hn9 hc) = x := ⟨_, rfl⟩
                rw [hwr] at hp9 ⊢
                clear hwr
                obtain ⟨v', hv'⟩ : ∃ x : GlV, { v with hA := hA, hn := hn9, hc := hc } = x := ⟨_, rfl⟩
                rw [hv'] at hp9
                clear hv'
                obtain ⟨v, hv⟩ : ∃ x, v' = x := ⟨_, rfl⟩
                rw [hv] at hp9
                clear hv
                have hst := hp9
                clear hp9
                have HK9 := Lib.hid fun (W : World) (k : Bk W gb 85 v.cells) => (show W.cell? ⟨gb, 0, none⟩ = some (.string v.nm) ∧ W.cell? ⟨gb, 1, none⟩ = some (.int .i64 v.adv) ∧ W.cell? ⟨gb, 2, none⟩ = some (.bool v.mrk) ∧ W.cell? ⟨gb, 3, none⟩ = some (.slice v.pA v.pn v.pc) ∧ W.cell? ⟨gb, 4, none⟩ = some (.slice v.eA v.en v.ec) ∧ W.cell? ⟨gb, 5, none⟩ = some (.slice v.tA v.tn v.tc) ∧ W.cell? ⟨gb, 6, none⟩ = some (.slice v.aA v.an v.ac) ∧ W.cell? ⟨gb, 7, none⟩ = some (.slice v.dA v.dn v.dc) ∧ W.cell? ⟨gb, 8, none⟩ = some (.slice v.hA v.hn v.hc) from ⟨bx k 0 rfl, bx k 1 rfl, bx k 2 rfl, bx k 3 rfl, bx k 4 rfl, bx k 5 rfl, bx k 6 rfl, bx k 7 rfl, bx k 8 rfl⟩)
                have HS0 := Lib.hid hst
                have hwl := hst.u.size
                have hwg : gm < wr.heap.size := by omega
                have hw0 := HGR.out.size
                clear hst
                have HS := Lib.hid fun (W : World) (bW : Up gm wr W) => (show Held1 W ∧ W.cell? ⟨gb, 0, none⟩ = some (.string v.nm) ∧ W.cell? ⟨gb, 1, none⟩ = some (.int .i64 v.adv) ∧ W.cell? ⟨gb, 2, none⟩ = some (.bool v.mrk) ∧ W.cell? ⟨gb, 3, none⟩ = some (.slice v.pA v.pn v.pc) ∧ W.cell? ⟨gb, 4, none⟩ = some (.slice v.eA v.en v.ec) ∧ W.cell? ⟨gb, 5, none⟩ = some (.slice v.tA v.tn v.tc) ∧ W.cell? ⟨gb, 6, none⟩ = some (.slice v.aA v.an v.ac) ∧ W.cell? ⟨gb, 7, none⟩ = some (.slice v.dA v.dn v.dc) ∧ W.cell? ⟨gb, 8, none⟩ = some (.slice v.hA v.hn v.hc) from ⟨held1 _, HK9.out W (bW.bk HS0.out.k (by omega))⟩)
                have bb := Up.refl gm wr
                refine wp_region_held_drew (S := fun w' => Held1 w' ∧ w'.cell? ⟨gb, 0, none⟩ = some (.string v.nm) ∧ w'.cell? ⟨gb, 1, none⟩ = some (.int .i64 v.adv) ∧ w'.cell? ⟨gb, 2, none⟩ = some (.bool v.mrk) ∧ w'.cell? ⟨gb, 3, none⟩ = some (.slice v.pA v.pn v.pc) ∧ w'.cell? ⟨gb, 4, none⟩ = some (.slice v.eA v.en v.ec) ∧ w'.cell? ⟨gb, 5, none⟩ = some (.slice v.tA v.tn v.tc) ∧ w'.cell? ⟨gb, 6, none⟩ = some (.slice v.aA v.an v.ac) ∧ w'.cell? ⟨gb, 7, none⟩ = some (.slice v.dA v.dn v.dc) ∧ w'.cell? ⟨gb, 8, none⟩ = some (.slice v.hA v.hn v.hc)) (by kernel_rfl) ?_ (fun hHeld => ?_)
                · exact HS.out _ (bb.drewN 1)
                replace bb := bb.drewN 1
                change Up _ _ wr.drew at bb
                generalize hw0 : wr.drew = W0 at hHeld bb ⊢
                clear hw0
                refine tkC 0 ?_
                refine tkC 1 ?_
                refine tkC 2 ?_
                refine tkC 3 ?_
                refine tkC 4 ?_
                refine tkC 6 ?_
                refine rd2 5 7 (fun K hK => ?_) (fun K hK => ?_)
                · have yL := (HM.out _ (HS0.out.u.trans bb)).cell 3 (by decide) rfl
                  change W0.cell? ⟨gm, 3, none⟩ = some (.slice s.f.ga s.f.gn s.f.gc) at yL
                  refine wy ?_
                  go_simp
                  clear hHeld
                  refine hK.out _ _ (HS.out _ bb) fun hHeld => ?_
                  clear hK K
                  clear yL
                  refine rd1 7 fun K hK => ?_
                  refine wy ?_
                  go_simp
                  clear hHeld
                  refine hK.out _ _ (HS.out _ (bb.alloc (by have := bb.size; omega) _)) fun hHeld => ?_
                  clear hK K
                  obtain ⟨V1, hV⟩ := world_of (hHeld.1)
                  obtain ⟨xs, hcP, hcl, hc1, hnw⟩ : ∃ xs : List Value, xs = v.list ∧ xs.length = 9 ∧ (∀ u ∈ xs, u.oneCell' = true) ∧ (0 < 1 → ∃ b o, some (⟨W0.heap.size, 0, none⟩ : Addr) = some ⟨b, o, none⟩ ∧ ∀ j u, xs[j]? = some u → V1.cell? ⟨b, o + j, none⟩ = some u) := by
                    rw [hV]
                    exact ⟨_, rfl, rfl, (by simp [Value.oneCell']), news_new _ _ _⟩
                  have bb2 : Up gm wr V1 := by rw [hV]; exact bb.alloc (by have := bb.size; omega) _
                  rw [← hV] at hHeld
                  rw [← hV]
                  clear hV bb
                  have bb := bb2
                  clear bb2
                  refine rd1 8 fun K hK => ?_
                  clear hHeld
                  have how := (HROW.out.upg (HS0.out.u.trans bb) hg).ow
                  have hs4 : w0.heap.size ≤ V1.heap.size := by have := bb.size; omega
                  refine appStep elt_glyb (by kernel_rfl) _ _ rfl V1 (w0.heap.size) _ _ _ (css.flatten) _ 1 1 xs (by rfl) (by rfl) how (by rw [hcl]) hnw hc1 (by omega) hs4 ?_
                  intro A' c' W4 ho4 hg4 hb4 hat4
                  subst hcP
                  obtain ⟨hm4, css', gs', hm5, hr5, hg5⟩ := gly_fin (HS0.out.up hgw bb) hg (HM.out _ (HS0.out.u.trans bb)) HGR.out (HROW.out.upg (HS0.out.u.trans bb) hg) HX.out ho4 hg4 hb4 hat4
                  have g3 := hm4.cell 3 (by decide) rfl
                  change W4.cell? ⟨gm, 3, none⟩ = some (.slice s.f.ga s.f.gn s.f.gc) at g3
                  obtain ⟨_, _, _, hk4, _⟩ := hm4
                  have z3 := hk4.frozen 3
                  have kb4 := (bb.bk HS0.out.k (by omega)).grown hg4 (fun e => by have := HX.out gb (bl_in.2 e.symm); have := HS0.out.lt; omega)
                  clear ho4 hg4 hb4 hat4 how hs4 hnw hc1 hcl hk4
                  refine hkG hK (⟨held1 _, HK9.out _ kb4⟩) fun hHeld => ?_
                  clear hK K
                  refine tkC 9 ?_
                  refine tkC 10 ?_
                  refine tkC 11 ?_
                  refine rd1 12 fun K hK => ?_
                  have kb5 := fun y => kb4.far (p := ⟨gm, 3, none⟩) (by show gb ≠ gm; omega) y
                  refine wy ?_
                  go_simp
                  clear hHeld
                  refine hK.out _ _ (⟨held1 _, HK9.out _ (kb5 _)⟩) fun hHeld => ?_
                  clear hK K
                  refine wpAnyH_done (by kernel_rfl) ?_ _
                  clear hHeld HS g3 z3 bb kb4 kb5
                  go_wp2_with fail
                  go_end0
                  exact ⟨_, _, _, _, rfl, hm5, hr5, hg5⟩




                · refine wy ?_
                  go_simp
                  clear hHeld
                  refine hK.out _ _ (HS.out _ (bb.alloc (by have := bb.size; omega) _)) fun hHeld => ?_
                  clear hK K
                  obtain ⟨V1, hV⟩ := world_of (hHeld.1)
                  obtain ⟨xs, hcP, hcl, hc1, hnw⟩ : ∃ xs : List Value, xs = v.list ∧ xs.length = 9 ∧ (∀ u ∈ xs, u.oneCell' = true) ∧ (0 < 1 → ∃ b o, some (⟨W0.heap.size, 0, none⟩ : Addr) = some ⟨b, o, none⟩ ∧ ∀ j u, xs[j]? = some u → V1.cell? ⟨b, o + j, none⟩ = some u) := by
                    rw [hV]
                    exact ⟨_, rfl, rfl, (by simp [Value.oneCell']), news_new _ _ _⟩
                  have bb2 : Up gm wr V1 := by rw [hV]; exact bb.alloc (by have := bb.size; omega) _
                  rw [← hV] at hHeld
                  rw [← hV]
                  clear hV bb
                  have bb := bb2
                  clear bb2
                  refine rd1 5 fun K hK => ?_
                  have yL := (HM.out _ (HS0.out.u.trans bb)).cell 3 (by decide) rfl
                  change V1.cell? ⟨gm, 3, none⟩ = some (.slice s.f.ga s.f.gn s.f.gc) at yL
                  refine wy ?_
                  go_simp
                  clear hHeld
                  refine hK.out _ _ (HS.out _ bb) fun hHeld => ?_
                  clear hK K
                  clear yL
                  refine rd1 8 fun K hK => ?_
                  clear hHeld
                  have how := (HROW.out.upg (HS0.out.u.trans bb) hg).ow
                  have hs4 : w0.heap.size ≤ V1.heap.size := by have := bb.size; omega
                  refine appStep elt_glyb (by kernel_rfl) _ _ rfl V1 (w0.heap.size) _ _ _ (css.flatten) _ 1 1 xs (by rfl) (by rfl) how (by rw [hcl]) hnw hc1 (by omega) hs4 ?_
                  intro A' c' W4 ho4 hg4 hb4 hat4
                  subst hcP
                  obtain ⟨hm4, css', gs', hm5, hr5, hg5⟩ := gly_fin (HS0.out.up hgw bb) hg (HM.out _ (HS0.out.u.trans bb)) HGR.out (HROW.out.upg (HS0.out.u.trans bb) hg) HX.out ho4 hg4 hb4 hat4
                  have g3 := hm4.cell 3 (by decide) rfl
                  change W4.cell? ⟨gm, 3, none⟩ = some (.slice s.f.ga s.f.gn s.f.gc) at g3
                  obtain ⟨_, _, _, hk4, _⟩ := hm4
                  have z3 := hk4.frozen 3
                  have kb4 := (bb.bk HS0.out.k (by omega)).grown hg4 (fun e => by have := HX.out gb (bl_in.2 e.symm); have := HS0.out.lt; omega)
                  clear ho4 hg4 hb4 hat4 how hs4 hnw hc1 hcl hk4
                  refine hkG hK (⟨held1 _, HK9.out _ kb4⟩) fun hHeld => ?_
                  clear hK K
                  refine tkC 9 ?_
                  refine tkC 10 ?_
                  refine tkC 11 ?_
                  refine rd1 12 fun K hK => ?_
                  have kb5 := fun y => kb4.far (p := ⟨gm, 3, none⟩) (by show gb ≠ gm; omega) y
                  refine wy ?_
                  go_simp
                  clear hHeld
                  refine hK.out _ _ (⟨held1 _, HK9.out _ (kb5 _)⟩) fun hHeld => ?_
                  clear hK K
                  refine wpAnyH_done (by kernel_rfl) ?_ _
                  clear hHeld HS g3 z3 bb kb4 kb5
                  go_wp2_with fail
                  go_end0
                  exact ⟨_, _, _, _, rfl, hm5, hr5, hg5⟩


end Go.Proofs.YtgcmedkaadagmaaDoor
