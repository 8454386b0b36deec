/- Walks: AutomatonHolds. -/
import Derived.Test.YtgcmedkaadagmaaDoorTw
import Derived.Test.YtgcmedkaadagmaaDoorT2
namespace Go.Proofs.YtgcmedkaadagmaaDoor
open Go.RowKit Go.Shelf Go.Maps

theorem does_says {rs : List Rul} {n : Nat} {b : Au} (h : DoesF (fontF n rs) 0 b) (w : List Int) (hw : ∀ g ∈ w, 0 ≤ g ∧ g < (n : Int)) : foreA b w = saysB false rs w ∧ backA b w = saysB true rs w := by
  obtain ⟨lk, _, _, h1, _, h2⟩ := h
  rw [fontF_lk, if_pos rfl] at h1
  injection h1 with h1; subst h1
  rw [fontF_len] at h2
  exact doesL_iff.1 h2 w hw
theorem rdR_take {w : World} {S : Nat → Prop} {A : Option Addr} {n m k : Nat} {xs : List Rul} (h : RdR w S A n xs) (hm : m = min n k) : RdR w S A m (xs.take k) := by
  have h1 : RdR w S A m (xs.take m) := SlE.take h m (by omega)
  rw [take_min xs h.len, ← hm]
  exact h1
theorem isF_two {w w' : World} {f : FV} {F : Fnt} (h : IsF w (lo w.heap.size) f F) (hb : Below w.heap.size w w') : IsF w' (lo w'.heap.size) f F := h.call hb

set_option maxRecDepth 100000 in
set_option maxHeartbeats 4000000 in
theorem automatonHolds_walk (g0 : Int) (A0 : Option Addr) (n0 c0 : Nat) (rs : List Rul) (t0 t1 t2 t3 : Int) (A1 : Option Addr) (n1 c1 : Nat) (l1 : List Int) (A2 : Option Addr) (n2 c2 : Nat) (l2 : List Int) (w : World) (_ : -9223372036854775808 ≤ g0 ∧ g0 ≤ 9223372036854775807) (h : RdR w (lo w.heap.size) A0 n0 rs) (hh : Hd n0 c0) (h1 : Rd w (lo w.heap.size) A1 n1 l1) (g1 : Hd n1 c1) (h2 : Rd w (lo w.heap.size) A2 n2 l2) (g2 : Hd n2 c2) (hT : Tab w) : Calls Tryd.prog 4 #[.agg #[.int .i64 g0, .slice A0 n0 c0, .int .i64 t0, .int .i64 t1, .int .i64 t2, .int .i64 t3, .slice A1 n1 c1, .slice A2 n2 c2]] w fun e w' => e = .returned (.bool true) ∧ Below w.heap.size w w' := by
  obtain ⟨m3, hm3⟩ : ∃ m : Nat, m = min n0 3 := ⟨_, rfl⟩
  have m3a : min (n0 : Int) 3 = (m3 : Int) := by omega
  have m3b : (if (3 : Int) < (n0 : Int) then (3 : Int) else (n0 : Int)) = (m3 : Int) := by split <;> omega
  have m3z : (0 : Int) ≤ (m3 : Int) := by omega
  have m3c : (m3 : Int) ≤ (c0 : Int) := by have := hh.1; omega
  have m3d : c0 ≤ 9223372036854775807 := hh.2
  have hh3 : Hd m3 c0 := ⟨by have := hh.1; omega, hh.2⟩
  have HM3 := Lib.hid hm3
  have hTp := hT.pos
  have b0 : Below w.heap.size w (w.alloc (.cells #[.int .i64 g0, .slice A0 n0 c0, .int .i64 t0, .int .i64 t1, .int .i64 t2, .int .i64 t3, .slice A1 n1 c1, .slice A2 n2 c2] 48)) := below_lit _ _ (Below.refl _ _) _
  have kx0 := Bk.new w 48 #[.int .i64 g0, .slice A0 n0 c0, .int .i64 t0, .int .i64 t1, .int .i64 t2, .int .i64 t3, .slice A1 n1 c1, .slice A2 n2 c2]
  have HSH := Lib.hid (shown_c (w.alloc (.cells #[.int .i64 g0, .slice A0 n0 c0, .int .i64 t0, .int .i64 t1, .int .i64 t2, .int .i64 t3, .slice A1 n1 c1, .slice A2 n2 c2] 48)) (hT.call b0 hTp))
  have HTT := Lib.hid fun (W : World) (bW : Below w.heap.size w W) => hT.call bW hTp
  have HR := Lib.hid fun (W : World) (bW : Below w.heap.size w W) => h.call bW
  have HR1 := Lib.hid fun (W : World) (bW : Below w.heap.size w W) => h1.call bW
  have L1 := Lib.hid h1.len
  have g1a := g1.1
  have g1b := g1.2
  have HR2 := Lib.hid fun (W : World) (bW : Below w.heap.size w W) => h2.call bW
  have L2 := Lib.hid h2.len
  have g2a := g2.1
  have g2b := g2.2
  clear h hT h1 g1 h2 g2
  go_enter Tryd.func4, Tryd.ntmps4
  go_wp2_with fail
  refine HSH.out.mono ?_
  rintro e w1 ⟨rfl, bn⟩
  have b1 := below_call b0 bn
  have kx1 := kx0.below bn kx0.lt
  have HM := Lib.hid fun (W : World) (bW : Below w1.heap.size w1 W) => made_c g0 A0 m3 c0 (rs.take 3) W (rdR_take (HR.out W (below_call b1 bW)) HM3.out) hh3
  have h0 := box_cells kx1 0 rfl
  have h1 := box_cells kx1 1 rfl
  have KX := Lib.hid kx1; have B1 := Lib.hid b1
  clear HSH b0 bn kx0 kx1 b1 hm3
  go_upto_region 2 with fail
  go_cut [4] (fun tv wx => ∃ (gF : Nat) (f : FV), tv = .pointer (some ⟨gF, 0, none⟩) ∧ Bk wx gF 33 #[.int .i64 f.u0, .slice f.ga f.gn f.gc, .slice f.ca f.cn f.cc, .slice f.la f.ln f.lc, .slice f.a4 f.n4 f.c4, .slice f.a5 f.n5 f.c5, .slice f.a6 f.n6 f.c6, .slice f.a7 f.n7 f.c7, .slice f.a8 f.n8 f.c8] ∧ IsF wx (lo wx.heap.size) f (fontF (glyN g0) (madeR (rs.take 3))) ∧ Bk wx w.heap.size 48 #[.int .i64 g0, .slice A0 n0 c0, .int .i64 t0, .int .i64 t1, .int .i64 t2, .int .i64 t3, .slice A1 n1 c1, .slice A2 n2 c2] ∧ Below w.heap.size w wx)
  case first =>
    have HS := Lib.hid fun (W : World) (bW : Below w1.heap.size w1 W) => (show W.cell? ⟨w.heap.size, 0, none⟩ = some (.int .i64 g0) ∧ W.cell? ⟨w.heap.size, 1, none⟩ = some (.slice A0 n0 c0) from ⟨cell_call h0 bW, cell_call h1 bW⟩)
    have bb := Below.refl w1.heap.size w1
    refine wp_region_held_drew (S := fun w' => w'.cell? ⟨w.heap.size, 0, none⟩ = some (.int .i64 g0) ∧ w'.cell? ⟨w.heap.size, 1, none⟩ = some (.slice A0 n0 c0)) (by kernel_rfl) ?_ (fun hHeld => ?_)
    · exact HS.out _ (below_drewN bb 1)
    replace bb := below_drewN bb 1
    change Below _ _ w1.drew at bb
    generalize hw0 : w1.drew = W0 at hHeld bb ⊢
    clear hw0
    refine wpAnyH_take (i := 0) (v := ?_) (by simp only [List.getElem?_toArray]; rfl) (by kernel_rfl) (by kernel_rfl) (by kernel_rfl) (by exact fun _ _ _ h => h) (Or.inl ⟨by rfl, ?_⟩) (by assumption) ?_
    rotate_left 1
    · intro w hSw; (try dsimp only at hSw); go_simp; try with_reducible rfl
    try conv => arg 8; simp only [Act.put, List.setIfInBounds_toArray, List.set_cons_zero, List.set_cons_succ]
    refine wpAnyH_take (i := 1) (v := ?_) (by simp only [List.getElem?_toArray]; rfl) (by kernel_rfl) (by kernel_rfl) (by kernel_rfl) (by exact fun _ _ _ h => h) (Or.inl ⟨by rfl, ?_⟩) (by assumption) ?_
    rotate_left 1
    · intro w hSw; (try dsimp only at hSw); go_simp; try with_reducible rfl
    try conv => arg 8; simp only [Act.put, List.setIfInBounds_toArray, List.set_cons_zero, List.set_cons_succ]
    refine wpAnyH_take (i := 2) (v := ?_) (by simp only [List.getElem?_toArray]; rfl) (by kernel_rfl) (by kernel_rfl) (by kernel_rfl) (by exact fun _ _ _ h => h) (Or.inl ⟨by rfl, ?_⟩) (by assumption) ?_
    rotate_left 1
    · intro w hSw; (try dsimp only at hSw); go_simp; try with_reducible rfl
    try conv => arg 8; simp only [Act.put, List.setIfInBounds_toArray, List.set_cons_zero, List.set_cons_succ]
    refine wpAnyH_take (i := 3) (v := ?_) (by simp only [List.getElem?_toArray]; rfl) (by kernel_rfl) (by kernel_rfl) (by kernel_rfl) (by exact fun _ _ _ h => h) (Or.inl ⟨by rfl, ?_⟩) (by assumption) ?_
    rotate_left 1
    · intro w hSw; (try dsimp only at hSw); go_simp; try with_reducible rfl
    try conv => arg 8; simp only [Act.put, List.setIfInBounds_toArray, List.set_cons_zero, List.set_cons_succ]
    refine wpAnyH_take (i := 4) (v := ?_) (by simp only [List.getElem?_toArray]; rfl) (by kernel_rfl) (by kernel_rfl) (by kernel_rfl) (by exact fun _ _ _ h => h) (Or.inl ⟨by rfl, ?_⟩) (by assumption) ?_
    rotate_left 1
    · intro w hSw; (try dsimp only at hSw); go_simp; try with_reducible rfl
    try conv => arg 8; simp only [Act.put, List.setIfInBounds_toArray, List.set_cons_zero, List.set_cons_succ]
    refine wpAnyH_take (i := 5) (v := ?_) (by simp only [List.getElem?_toArray]; rfl) (by kernel_rfl) (by kernel_rfl) (by kernel_rfl) (by exact fun _ _ _ h => h) (Or.inl ⟨by rfl, ?_⟩) (by assumption) ?_
    rotate_left 1
    · intro w hSw; (try dsimp only at hSw); go_simp; try with_reducible rfl
    try conv => arg 8; simp only [Act.put, List.setIfInBounds_toArray, List.set_cons_zero, List.set_cons_succ]
    refine wpAnyH_take (i := 6) (v := ?_) (by simp only [List.getElem?_toArray]; rfl) (by kernel_rfl) (by kernel_rfl) (by kernel_rfl) (by exact fun _ _ _ h => h) (Or.inl ⟨by rfl, ?_⟩) (by assumption) ?_
    rotate_left 1
    · intro w hSw; (try dsimp only at hSw); go_simp; try with_reducible rfl
    try conv => arg 8; simp only [Act.put, List.setIfInBounds_toArray, List.set_cons_zero, List.set_cons_succ]
    refine wpAnyH_take (i := 7) (v := ?_) (by simp only [List.getElem?_toArray]; rfl) (by kernel_rfl) (by kernel_rfl) (by kernel_rfl) (by exact fun _ _ _ h => h) (Or.inl ⟨by rfl, ?_⟩) (by assumption) ?_
    rotate_left 1
    · intro w hSw; (try dsimp only at hSw); go_simp; try with_reducible rfl
    try conv => arg 8; simp only [Act.put, List.setIfInBounds_toArray, List.set_cons_zero, List.set_cons_succ]
    refine wpAnyH_take (i := 8) (v := ?_) (by simp only [List.getElem?_toArray]; rfl) (by kernel_rfl) (by kernel_rfl) (by kernel_rfl) (by exact fun _ _ _ h => h) (Or.inl ⟨by rfl, ?_⟩) (by assumption) ?_
    rotate_left 1
    · intro w hSw; (try dsimp only at hSw); go_simp; try with_reducible rfl
    try conv => arg 8; simp only [Act.put, List.setIfInBounds_toArray, List.set_cons_zero, List.set_cons_succ]
    refine wpAnyH_ready (rs := [9, 10]) (by kernel_rfl) (by simp) ?_
    refine AllReadyH.cons (by simp only [List.getElem?_toArray]; rfl) (fun K hK => ?_) (AllReadyH.cons (by simp only [List.getElem?_toArray]; rfl) (fun K hK => ?_) AllReadyH.nil)
    · refine wanted_pos (by kernel_rfl) ?_
      go_simp
      clear hHeld
      go_at_call 14
      (with_reducible refine (HM.out W0 bb).mono ?_)
      rintro e W1 ⟨f, rfl, hF, bn⟩
      go_wp2_with fail
      refine hK.out _ _ ?_ (fun hHeld => ?_)
      · exact HS.out _ (bb.trans (bn.mono bb.size))
      clear hK K
      try conv => arg 8; simp only [Act.put, List.setIfInBounds_toArray, List.set_cons_zero, List.set_cons_succ]
      replace bb := bb.trans (bn.mono bb.size)
      have hF1 : IsF W1 (lo W1.heap.size) f (fontF (glyN g0) (madeR (rs.take 3))) := hF.mono (fun _ hb => hb.2) (Kept.refl _ _)
      clear hF bn
      refine wpAnyH_ready (rs := [10]) (by kernel_rfl) (by simp) ?_
      refine AllReadyH.cons (by simp only [List.getElem?_toArray]; rfl) (fun K hK => ?_) AllReadyH.nil
      refine wanted_pos (by kernel_rfl) ?_
      go_simp
      clear hHeld
      refine hK.out _ _ ?_ (fun hHeld => ?_)
      · exact HS.out _ (below_lit _ _ bb _)
      clear hK K
      try conv => arg 8; simp only [Act.put, List.setIfInBounds_toArray, List.set_cons_zero, List.set_cons_succ]
      have bn : Below W1.heap.size W1 (W1.alloc (.cells #[.int .i64 0, .slice none 0 0, .slice none 0 0, .slice none 0 0, .slice none 0 0, .slice none 0 0, .slice none 0 0, .slice none 0 0, .slice none 0 0] 33)) := (Below.refl _ _).alloc (Nat.le_refl _) _
      have hgF := bb.size
      have hF3 : IsF (W1.alloc (.cells #[.int .i64 0, .slice none 0 0, .slice none 0 0, .slice none 0 0, .slice none 0 0, .slice none 0 0, .slice none 0 0, .slice none 0 0, .slice none 0 0] 33)) (fun b => b ≠ W1.heap.size ∧ b < (W1.alloc (.cells #[.int .i64 0, .slice none 0 0, .slice none 0 0, .slice none 0 0, .slice none 0 0, .slice none 0 0, .slice none 0 0, .slice none 0 0, .slice none 0 0] 33)).heap.size) f (fontF (glyN g0) (madeR (rs.take 3))) := hF1.mono (fun b hb => ⟨Nat.ne_of_lt hb, Nat.lt_of_lt_of_le hb bn.size⟩) (fun b hb => bn.block b hb)
      have kF := Bk.new W1 33 #[.int .i64 0, .slice none 0 0, .slice none 0 0, .slice none 0 0, .slice none 0 0, .slice none 0 0, .slice none 0 0, .slice none 0 0, .slice none 0 0]
      replace bb := bb.trans (bn.mono bb.size)
      clear hF1 bn
      generalize W1.alloc (.cells #[.int .i64 0, .slice none 0 0, .slice none 0 0, .slice none 0 0, .slice none 0 0, .slice none 0 0, .slice none 0 0, .slice none 0 0, .slice none 0 0] 33) = W2 at *
      generalize W1.heap.size = gF at *
      have v0 := box_cells kF 0 rfl
      have fz0 := kF.frozen 0
      have v1 := box_cells kF 1 rfl
      have fz1 := kF.frozen 1
      have v2 := box_cells kF 2 rfl
      have fz2 := kF.frozen 2
      have v3 := box_cells kF 3 rfl
      have fz3 := kF.frozen 3
      have v4 := box_cells kF 4 rfl
      have fz4 := kF.frozen 4
      have v5 := box_cells kF 5 rfl
      have fz5 := kF.frozen 5
      have v6 := box_cells kF 6 rfl
      have fz6 := kF.frozen 6
      have v7 := box_cells kF 7 rfl
      have fz7 := kF.frozen 7
      have v8 := box_cells kF 8 rfl
      have fz8 := kF.frozen 8
      refine wpAnyH_ready (rs := [11]) (by kernel_rfl) (by simp) ?_
      refine AllReadyH.cons (by simp only [List.getElem?_toArray]; rfl) (fun K hK => ?_) AllReadyH.nil
      refine wanted_pos (by kernel_rfl) ?_
      go_simp
      clear hHeld
      have kF5 := store9_bk kF (.int .i64 f.u0) (.slice f.ga f.gn f.gc) (.slice f.ca f.cn f.cc) (.slice f.la f.ln f.lc) (.slice f.a4 f.n4 f.c4) (.slice f.a5 f.n5 f.c5) (.slice f.a6 f.n6 f.c6) (.slice f.a7 f.n7 f.c7) (.slice f.a8 f.n8 f.c8)
      have bl5 := store9_below (w := w1) (g := gF) bb (by omega) (.int .i64 f.u0) (.slice f.ga f.gn f.gc) (.slice f.ca f.cn f.cc) (.slice f.la f.ln f.lc) (.slice f.a4 f.n4 f.c4) (.slice f.a5 f.n5 f.c5) (.slice f.a6 f.n6 f.c6) (.slice f.a7 f.n7 f.c7) (.slice f.a8 f.n8 f.c8)
      obtain ⟨hkp5, hsz5⟩ := store9_kept W2 gF (.int .i64 f.u0) (.slice f.ga f.gn f.gc) (.slice f.ca f.cn f.cc) (.slice f.la f.ln f.lc) (.slice f.a4 f.n4 f.c4) (.slice f.a5 f.n5 f.c5) (.slice f.a6 f.n6 f.c6) (.slice f.a7 f.n7 f.c7) (.slice f.a8 f.n8 f.c8)
      unfold store9 at kF5 bl5 hkp5 hsz5
      refine hK.out _ _ ?_ (fun hHeld => ?_)
      · exact HS.out _ bl5
      clear hK K
      try conv => arg 8; simp only [Act.put, List.setIfInBounds_toArray, List.set_cons_zero, List.set_cons_succ]
      refine wpAnyH_done (by kernel_rfl) ?_ _
      clear HS hHeld bb v0 fz0 v1 fz1 v2 fz2 v3 fz3 v4 fz4 v5 fz5 v6 fz6 v7 fz7 v8 fz8
      go_wp2_with fail
      go_meet
      exact ⟨gF, f, rfl, kF5, (hF3.mono (fun b hb => by show b < _; rw [hsz5]; exact hb.2) (fun b hb => hkp5 b hb.1)), KX.out.below bl5 KX.out.lt, below_call B1.out bl5⟩

    · refine wanted_pos (by kernel_rfl) ?_
      go_simp
      clear hHeld
      refine hK.out _ _ ?_ (fun hHeld => ?_)
      · exact HS.out _ (below_lit _ _ bb _)
      clear hK K
      try conv => arg 8; simp only [Act.put, List.setIfInBounds_toArray, List.set_cons_zero, List.set_cons_succ]
      have hgF := bb.size
      have bn : Below W0.heap.size W0 (W0.alloc (.cells #[.int .i64 0, .slice none 0 0, .slice none 0 0, .slice none 0 0, .slice none 0 0, .slice none 0 0, .slice none 0 0, .slice none 0 0, .slice none 0 0] 33)) := (Below.refl _ _).alloc (Nat.le_refl _) _
      have kF0 := Bk.new W0 33 #[.int .i64 0, .slice none 0 0, .slice none 0 0, .slice none 0 0, .slice none 0 0, .slice none 0 0, .slice none 0 0, .slice none 0 0, .slice none 0 0]
      replace bb := bb.trans (bn.mono bb.size)
      clear bn
      generalize W0.alloc (.cells #[.int .i64 0, .slice none 0 0, .slice none 0 0, .slice none 0 0, .slice none 0 0, .slice none 0 0, .slice none 0 0, .slice none 0 0, .slice none 0 0] 33) = W1 at *
      generalize W0.heap.size = gF at *
      refine wpAnyH_ready (rs := [9]) (by kernel_rfl) (by simp) ?_
      refine AllReadyH.cons (by simp only [List.getElem?_toArray]; rfl) (fun K hK => ?_) AllReadyH.nil
      refine wanted_pos (by kernel_rfl) ?_
      go_simp
      clear hHeld
      go_at_call 14
      (with_reducible refine (HM.out W1 bb).mono ?_)
      rintro e W2 ⟨f, rfl, hF, bn⟩
      go_wp2_with fail
      refine hK.out _ _ ?_ (fun hHeld => ?_)
      · exact HS.out _ (bb.trans (bn.mono bb.size))
      clear hK K
      try conv => arg 8; simp only [Act.put, List.setIfInBounds_toArray, List.set_cons_zero, List.set_cons_succ]
      replace bb := bb.trans (bn.mono bb.size)
      have kF := kF0.below bn kF0.lt
      have hF3 : IsF W2 (fun b => b ≠ gF ∧ b < W2.heap.size) f (fontF (glyN g0) (madeR (rs.take 3))) := hF.mono (fun b hb => ⟨by have := kF0.lt; omega, hb.2⟩) (Kept.refl _ _)
      clear hF bn kF0
      have v0 := box_cells kF 0 rfl
      have fz0 := kF.frozen 0
      have v1 := box_cells kF 1 rfl
      have fz1 := kF.frozen 1
      have v2 := box_cells kF 2 rfl
      have fz2 := kF.frozen 2
      have v3 := box_cells kF 3 rfl
      have fz3 := kF.frozen 3
      have v4 := box_cells kF 4 rfl
      have fz4 := kF.frozen 4
      have v5 := box_cells kF 5 rfl
      have fz5 := kF.frozen 5
      have v6 := box_cells kF 6 rfl
      have fz6 := kF.frozen 6
      have v7 := box_cells kF 7 rfl
      have fz7 := kF.frozen 7
      have v8 := box_cells kF 8 rfl
      have fz8 := kF.frozen 8
      refine wpAnyH_ready (rs := [11]) (by kernel_rfl) (by simp) ?_
      refine AllReadyH.cons (by simp only [List.getElem?_toArray]; rfl) (fun K hK => ?_) AllReadyH.nil
      refine wanted_pos (by kernel_rfl) ?_
      go_simp
      clear hHeld
      have kF5 := store9_bk kF (.int .i64 f.u0) (.slice f.ga f.gn f.gc) (.slice f.ca f.cn f.cc) (.slice f.la f.ln f.lc) (.slice f.a4 f.n4 f.c4) (.slice f.a5 f.n5 f.c5) (.slice f.a6 f.n6 f.c6) (.slice f.a7 f.n7 f.c7) (.slice f.a8 f.n8 f.c8)
      have bl5 := store9_below (w := w1) (g := gF) bb (by omega) (.int .i64 f.u0) (.slice f.ga f.gn f.gc) (.slice f.ca f.cn f.cc) (.slice f.la f.ln f.lc) (.slice f.a4 f.n4 f.c4) (.slice f.a5 f.n5 f.c5) (.slice f.a6 f.n6 f.c6) (.slice f.a7 f.n7 f.c7) (.slice f.a8 f.n8 f.c8)
      obtain ⟨hkp5, hsz5⟩ := store9_kept W2 gF (.int .i64 f.u0) (.slice f.ga f.gn f.gc) (.slice f.ca f.cn f.cc) (.slice f.la f.ln f.lc) (.slice f.a4 f.n4 f.c4) (.slice f.a5 f.n5 f.c5) (.slice f.a6 f.n6 f.c6) (.slice f.a7 f.n7 f.c7) (.slice f.a8 f.n8 f.c8)
      unfold store9 at kF5 bl5 hkp5 hsz5
      refine hK.out _ _ ?_ (fun hHeld => ?_)
      · exact HS.out _ bl5
      clear hK K
      try conv => arg 8; simp only [Act.put, List.setIfInBounds_toArray, List.set_cons_zero, List.set_cons_succ]
      refine wpAnyH_done (by kernel_rfl) ?_ _
      clear HS hHeld bb v0 fz0 v1 fz1 v2 fz2 v3 fz3 v4 fz4 v5 fz5 v6 fz6 v7 fz7 v8 fz8
      go_wp2_with fail
      go_meet
      exact ⟨gF, f, rfl, kF5, (hF3.mono (fun b hb => by show b < _; rw [hsz5]; exact hb.2) (fun b hb => hkp5 b hb.1)), KX.out.below bl5 KX.out.lt, below_call B1.out bl5⟩

  case rest =>
    obtain ⟨gF, f, rfl, kf3, hF3, kx3, b3⟩ := hcut
    clear KX B1 HM m3a m3b m3z m3c m3d hh3 HM3 h0 h1
    obtain ⟨gn, hgn⟩ : ∃ n : Nat, glyN g0 = n := ⟨_, rfl⟩
    have hgn8 : gn ≤ 8 := hgn ▸ glyN_le g0
    have hgn0 : 0 < gn := hgn ▸ glyN_pos g0
    rw [hgn] at hF3
    clear hgn
    obtain ⟨a, ha, hbl⟩ := made_build (rs.take 3) hgn0 hgn8
    have hbl2 : buildL (fontF gn (madeR (rs.take 3))) 0 = (some a, 0) := hbl
    have HSM := Lib.hid (show ∀ lk, lkAt (fontF gn (madeR (rs.take 3))) 0 = some lk → lk.rules.length ≤ 64 → SmB lk.rules from fun lk h _ => by rw [fontF_lk, if_pos rfl] at h; injection h with h; subst h; exact made_sm (rs.take 3))
    have HB := Lib.hid (build_c f (fontF gn (madeR (rs.take 3))) 0 _ hF3 HSM.out)
    have HBL := Lib.hid hbl2; have HAU := Lib.hid ha
    unfold FV.cells at HB
    have hgl : f.gn = gn := by have h1 := hF3.1.len; rw [← h1]; exact fontF_len gn (madeR (rs.take 3))
    have YF := Lib.hid (show some (Value.slice f.ga f.gn f.gc) = some (.slice f.ga gn f.gc) by rw [hgl])
    have v0 := box_cells kf3 0 rfl
    have v1 := box_cells kf3 1 rfl
    have v2 := box_cells kf3 2 rfl
    have v3 := box_cells kf3 3 rfl
    have v4 := box_cells kf3 4 rfl
    have v5 := box_cells kf3 5 rfl
    have v6 := box_cells kf3 6 rfl
    have v7 := box_cells kf3 7 rfl
    have v8 := box_cells kf3 8 rfl
    clear hbl hbl2 ha hgl
    go_wp2_with fail
    refine HB.out.mono ?_
    rintro e w4 ⟨bn, hm⟩
    rw [HBL.out] at hm
    obtain ⟨v, rfl, hA4⟩ := hm
    have b4 := below_call b3 bn
    have hF4 := hF3.call bn
    have kf4 := kf3.below bn kf3.lt
    have kx4 := kx3.below bn kx3.lt
    clear HB b3 hF3 kf3 bn kx3 v0 v1 v2 v3 v4 v5 v6 v7 v8
    have b45 : Below w4.heap.size w4 (w4.alloc (.cells #[.slice v.ca v.cn v.cc, .slice v.fa v.fn v.fc, .slice v.ba v.bn v.bc, .slice v.ea v.en v.ec, .slice v.ga v.gn v.gc] 38)) := (Below.refl _ _).alloc (Nat.le_refl _) _
    have kA := Bk.new w4 38 #[.slice v.ca v.cn v.cc, .slice v.fa v.fn v.fc, .slice v.ba v.bn v.bc, .slice v.ea v.en v.ec, .slice v.ga v.gn v.gc]
    have HTU := Lib.hid (turned_c v a t0 t1 t2 t3 _ (hA4.call b45))
    have b5 := below_call b4 b45
    have hF5 := hF4.call b45
    have hA5 := hA4.call b45
    have kf5 := kf4.below b45 kf4.lt
    have kx5 := kx4.below b45 kx4.lt
    unfold AV.cells at *
    have t2' := box_cells kx5 2 rfl
    have t3' := box_cells kx5 3 rfl
    have t4' := box_cells kx5 4 rfl
    have t5' := box_cells kx5 5 rfl
    obtain ⟨gA, hgA⟩ : ∃ g, w4.heap.size = g := ⟨_, rfl⟩
    obtain ⟨w5, hw5⟩ : ∃ w5, w4.alloc (.cells #[.slice v.ca v.cn v.cc, .slice v.fa v.fn v.fc, .slice v.ba v.bn v.bc, .slice v.ea v.en v.ec, .slice v.ga v.gn v.gc] 38) = w5 := ⟨_, rfl⟩
    go_upto_region 6 with fail
    rw [hgA, hw5] at kA
    rw [hw5] at HTU b5 hF5 hA5 kf5 kx5 t2' t3' t4' t5'
    try rw [hw5]
    try rw [hgA]
    clear hgA hw5 b45 b4 hF4 hA4 kf4 kx4
    have a0 := box_cells kA 0 rfl
    have a1 := box_cells kA 1 rfl
    have a2 := box_cells kA 2 rfl
    have a3 := box_cells kA 3 rfl
    have a4 := box_cells kA 4 rfl
    go_wp2_with fail
    refine HTU.out.mono ?_
    rintro e w6 ⟨u, b, rfl, hB6, hbf, hbb, bn⟩
    unfold AV.cells
    have b6 := below_call b5 bn
    have hF6 := hF5.call bn
    have hA6 := hA5.call bn
    have kf6 := kf5.below bn kf5.lt
    have kx6 := kx5.below bn kx5.lt
    have kA6 := kA.below bn kA.lt
    have hB6' : IsA w6 (lo w6.heap.size) u b := hB6.mono (fun _ hb => hb.2) (Kept.refl _ _)
    clear HTU bn b5 hF5 hA5 kf5 kx5 kA hB6 a0 a1 a2 a3 a4 t2' t3' t4' t5'
    have b67 : Below w6.heap.size w6 (w6.alloc (.cells #[.slice u.ca u.cn u.cc, .slice u.fa u.fn u.fc, .slice u.ba u.bn u.bc, .slice u.ea u.en u.ec, .slice u.ga u.gn u.gc] 38)) := (Below.refl _ _).alloc (Nat.le_refl _) _
    have kB := Bk.new w6 38 #[.slice u.ca u.cn u.cc, .slice u.fa u.fn u.fc, .slice u.ba u.bn u.bc, .slice u.ea u.en u.ec, .slice u.ga u.gn u.gc]
    go_upto_region 7 with fail
    obtain ⟨gB, hgB⟩ : ∃ g, w6.heap.size = g := ⟨_, rfl⟩
    obtain ⟨wB, hwB⟩ : ∃ wB, w6.alloc (.cells #[.slice u.ca u.cn u.cc, .slice u.fa u.fn u.fc, .slice u.ba u.bn u.bc, .slice u.ea u.en u.ec, .slice u.ga u.gn u.gc] 38) = wB := ⟨_, rfl⟩
    have KX := Lib.hid (kx6.below b67 kx6.lt); have KF := Lib.hid (kf6.below b67 kf6.lt); have KA := Lib.hid (kA6.below b67 kA6.lt); have BB := Lib.hid (below_call b6 b67)
    have HFB := Lib.hid (hF6.call b67); have HAB := Lib.hid (hA6.call b67); have HBB := Lib.hid (hB6'.call b67)
    rw [hgB] at kB
    have KB := Lib.hid kB
    clear kB b67 b6 hF6 hA6 kf6 kx6 kA6 hB6'
    rw [hwB] at KX KF KA BB HFB HAB HBB KB
    try rw [hwB]
    try rw [hgB]
    clear hgB hwB
    have htw : Two wB ((wB.alloc (.cells #[] 3)).alloc (.cells #[] 3)) (some ⟨wB.heap.size, 0, none⟩) 0 0 (modG gn (l1.take 0)) (some ⟨wB.heap.size + 1, 0, none⟩) 0 0 [] := by
      have h2 := Ow.empty 3 1 (wB.alloc (.cells #[] 3)) wB.heap.size (by rw [World.size_alloc]; omega)
      rw [World.size_alloc] at h2
      exact ⟨below_lit _ _ (below_lit _ _ (Below.refl _ _) _) _, (Ow.empty 3 1 wB wB.heap.size (Nat.le_refl _)).alloc _, h2, fun b e1 e2 => by
        injection e1 with e1; injection e2 with e2
        have e1' : wB.heap.size = b := e1
        have e2' : wB.heap.size + 1 = b := e2
        omega⟩
    go_upto_region 10 with fail
    obtain ⟨Af, hAf⟩ : ∃ A : Option Addr, some ⟨wB.heap.size + 1, 0, none⟩ = A := ⟨_, rfl⟩
    rw [hAf] at htw ⊢
    clear hAf
    generalize (wB.alloc (.cells #[] 3)).alloc (.cells #[] 3) = w8 at *
    go_loopw [8, 10] (fun bv iv wr => ∃ (i : Nat) (Ax : Option Addr) (d : Nat), i ≤ 10 ∧ i ≤ n1 ∧ iv = .int .i64 i ∧ bv = .slice Ax i d ∧ Two wB wr Ax i d (modG gn (l1.take i)) Af 0 0 []) (fun _ iv _ => n1 - (intOf iv).toNat)
    case atStart => exact ⟨0, _, _, by omega, by omega, rfl, rfl, htw⟩
    case round =>
      clear htw
      obtain ⟨i, Ax, d, hi10, hin, rfl, rfl, htw⟩ := hrel
      have yx := box_cells (KX.out.below htw.bl KX.out.lt) 6 rfl
      by_cases hlt : i < n1
      · have inn : (i : Int) < (n1 : Int) := by omega
        by_cases hlt10 : i < 10
        · have i10 : (i : Int) < 10 := by omega
          have iz : (0 : Int) ≤ (i : Int) := by omega
          obtain ⟨x, hx⟩ := at_some l1 i (by rw [L1.out]; omega)
          obtain ⟨ba, oa, rfl, hba, hcc⟩ := (HR1.out w (Below.refl _ _)).pos (show 0 < n1 by omega)
          obtain ⟨cs, rfl, hcc2⟩ := hcc i x hx
          have bwr := below_trans2 BB.out htw.bl
          have xe := (bwr.cell (p := ⟨ba, oa + i * 1 + 0, none⟩) hba).trans (hcc2 0 _ rfl)
          rw [Nat.mul_one, Nat.add_zero] at xe
          change ba < w.heap.size at hba
          have HMG := Lib.hid (modG_succ gn hx)
          obtain ⟨z, hz⟩ : ∃ z : Int, x % 65536 % (gn : Int) = z := ⟨_, rfl⟩
          have e1 := and65535 x
          obtain ⟨z0, hz0⟩ : ∃ z0 : Nat, x % 65536 = (z0 : Int) := ⟨(x % 65536).toNat, by omega⟩
          rw [hz0] at e1 hz
          have e2 : (z0 : Int).tmod (gn : Int) = z := by rw [Int.tmod_eq_emod_of_nonneg (by omega)]; exact hz
          rw [hz0, hz] at HMG
          have ez2 : ¬ (gn = 0) := by omega
          have yf := (box_cells (KF.out.below htw.bl KF.out.lt) 1 rfl).trans YF.out
          have HSS := Lib.hid htw
          clear hcc hcc2 hx htw hz hz0 bwr
          go_upto_region 12 with fail
          have HS := Lib.hid fun (W : World) (bW : Below wr.heap.size wr W) => (show W.cell? ⟨w.heap.size, 6, none⟩ = some (.slice (some ⟨ba, oa, none⟩) n1 c1) ∧ W.cell? ⟨ba, oa + i, none⟩ = some (.int .i64 x) ∧ W.cell? ⟨gF, 1, none⟩ = some (.slice f.ga gn f.gc) from ⟨cell_call yx bW, cell_call xe bW, cell_call yf bW⟩)
          have bb := Below.refl wr.heap.size wr
          refine wp_region_held_drew (S := fun w' => w'.cell? ⟨w.heap.size, 6, none⟩ = some (.slice (some ⟨ba, oa, none⟩) n1 c1) ∧ w'.cell? ⟨ba, oa + i, none⟩ = some (.int .i64 x) ∧ w'.cell? ⟨gF, 1, none⟩ = some (.slice f.ga gn f.gc)) (by kernel_rfl) ?_ (fun hHeld => ?_)
          · exact HS.out _ (below_drewN bb 1)
          replace bb := below_drewN bb 1
          change Below _ _ wr.drew at bb
          generalize hw0 : wr.drew = W0 at hHeld bb ⊢
          clear hw0
          refine wpAnyH_take (i := 0) (v := ?_) (by simp only [List.getElem?_toArray]; rfl) (by kernel_rfl) (by kernel_rfl) (by kernel_rfl) (by exact fun _ _ _ h => h) (Or.inl ⟨by rfl, ?_⟩) (by assumption) ?_
          rotate_left 1
          · intro w hSw; (try dsimp only at hSw); go_simp; try with_reducible rfl
          try conv => arg 8; simp only [Act.put, List.setIfInBounds_toArray, List.set_cons_zero, List.set_cons_succ]
          refine wpAnyH_take (i := 1) (v := ?_) (by simp only [List.getElem?_toArray]; rfl) (by kernel_rfl) (by kernel_rfl) (by kernel_rfl) (by exact fun _ _ _ h => h) (Or.inl ⟨by rfl, ?_⟩) (by assumption) ?_
          rotate_left 1
          · intro w hSw; (try dsimp only at hSw); go_simp; try with_reducible rfl
          try conv => arg 8; simp only [Act.put, List.setIfInBounds_toArray, List.set_cons_zero, List.set_cons_succ]
          refine wpAnyH_take (i := 2) (v := ?_) (by simp only [List.getElem?_toArray]; rfl) (by kernel_rfl) (by kernel_rfl) (by kernel_rfl) (by exact fun _ _ _ h => h) (Or.inl ⟨by rfl, ?_⟩) (by assumption) ?_
          rotate_left 1
          · intro w hSw; (try dsimp only at hSw); go_simp; try with_reducible rfl
          try conv => arg 8; simp only [Act.put, List.setIfInBounds_toArray, List.set_cons_zero, List.set_cons_succ]
          refine wpAnyH_take (i := 3) (v := ?_) (by simp only [List.getElem?_toArray]; rfl) (by kernel_rfl) (by kernel_rfl) (by kernel_rfl) (by exact fun _ _ _ h => h) (Or.inl ⟨by rfl, ?_⟩) (by assumption) ?_
          rotate_left 1
          · intro w hSw; (try dsimp only at hSw); go_simp; try with_reducible rfl
          try conv => arg 8; simp only [Act.put, List.setIfInBounds_toArray, List.set_cons_zero, List.set_cons_succ]
          refine wpAnyH_take (i := 4) (v := ?_) (by simp only [List.getElem?_toArray]; rfl) (by kernel_rfl) (by kernel_rfl) (by kernel_rfl) (by exact fun _ _ _ h => h) (Or.inl ⟨by rfl, ?_⟩) (by assumption) ?_
          rotate_left 1
          · intro w hSw; (try dsimp only at hSw); go_simp; try with_reducible rfl
          try conv => arg 8; simp only [Act.put, List.setIfInBounds_toArray, List.set_cons_zero, List.set_cons_succ]
          refine wpAnyH_take (i := 5) (v := ?_) (by simp only [List.getElem?_toArray]; rfl) (by kernel_rfl) (by kernel_rfl) (by kernel_rfl) (by exact fun _ _ _ h => h) (Or.inl ⟨by rfl, ?_⟩) (by assumption) ?_
          rotate_left 1
          · intro w hSw; (try dsimp only at hSw); go_simp; try with_reducible rfl
          try conv => arg 8; simp only [Act.put, List.setIfInBounds_toArray, List.set_cons_zero, List.set_cons_succ]
          refine wpAnyH_take (i := 6) (v := ?_) (by simp only [List.getElem?_toArray]; rfl) (by kernel_rfl) (by kernel_rfl) (by kernel_rfl) (by exact fun _ _ _ h => h) (Or.inl ⟨by rfl, ?_⟩) (by assumption) ?_
          rotate_left 1
          · intro w hSw; (try dsimp only at hSw); go_simp; try with_reducible rfl
          try conv => arg 8; simp only [Act.put, List.setIfInBounds_toArray, List.set_cons_zero, List.set_cons_succ]
          refine wpAnyH_take (i := 7) (v := ?_) (by simp only [List.getElem?_toArray]; rfl) (by kernel_rfl) (by kernel_rfl) (by kernel_rfl) (by exact fun _ _ _ h => h) (Or.inl ⟨by rfl, ?_⟩) (by assumption) ?_
          rotate_left 1
          · intro w hSw; (try dsimp only at hSw); go_simp; try with_reducible rfl
          try conv => arg 8; simp only [Act.put, List.setIfInBounds_toArray, List.set_cons_zero, List.set_cons_succ]
          refine wpAnyH_take (i := 8) (v := ?_) (by simp only [List.getElem?_toArray]; rfl) (by kernel_rfl) (by kernel_rfl) (by kernel_rfl) (by exact fun _ _ _ h => h) (Or.inl ⟨by rfl, ?_⟩) (by assumption) ?_
          rotate_left 1
          · intro w hSw; (try dsimp only at hSw); go_simp; try with_reducible rfl
          try conv => arg 8; simp only [Act.put, List.setIfInBounds_toArray, List.set_cons_zero, List.set_cons_succ]
          refine wpAnyH_take (i := 9) (v := ?_) (by simp only [List.getElem?_toArray]; rfl) (by kernel_rfl) (by kernel_rfl) (by kernel_rfl) (by exact fun _ _ _ h => h) (Or.inl ⟨by rfl, ?_⟩) (by assumption) ?_
          rotate_left 1
          · intro w hSw; (try dsimp only at hSw); go_simp; try with_reducible rfl
          try conv => arg 8; simp only [Act.put, List.setIfInBounds_toArray, List.set_cons_zero, List.set_cons_succ]
          refine wpAnyH_take (i := 10) (v := ?_) (by simp only [List.getElem?_toArray]; rfl) (by kernel_rfl) (by kernel_rfl) (by kernel_rfl) (by exact fun _ _ _ h => h) (Or.inl ⟨by rfl, ?_⟩) (by assumption) ?_
          rotate_left 1
          · intro w hSw; (try dsimp only at hSw); go_simp; try with_reducible rfl
          try conv => arg 8; simp only [Act.put, List.setIfInBounds_toArray, List.set_cons_zero, List.set_cons_succ]
          refine wpAnyH_ready (rs := [11]) (by kernel_rfl) (by simp) ?_
          refine AllReadyH.cons (by simp only [List.getElem?_toArray]; rfl) (fun K hK => ?_) AllReadyH.nil
          refine wanted_pos (by kernel_rfl) ?_
          go_simp
          clear hHeld
          refine hK.out _ _ ?_ (fun hHeld => ?_)
          · exact HS.out _ (below_lit _ _ bb _)
          clear hK K
          try conv => arg 8; simp only [Act.put, List.setIfInBounds_toArray, List.set_cons_zero, List.set_cons_succ]
          refine wpAnyH_ready (rs := [12]) (by kernel_rfl) (by simp) ?_
          refine AllReadyH.cons (by simp only [List.getElem?_toArray]; rfl) (fun K hK => ?_) AllReadyH.nil
          clear hHeld
          have how := (HSS.out.o0.call bb).alloc (.cells #[.int .i64 z] 3)
          have hnw := news_new W0 [.int .i64 z] 3
          have hs2 : wB.heap.size ≤ (W0.alloc (.cells #[.int .i64 z] 3)).heap.size := by rw [World.size_alloc]; have h1 := HSS.out.bl.size; have h2 := bb.size; omega
          refine appStep elt_int (by kernel_rfl) _ _ rfl (W0.alloc (.cells #[.int .i64 z] 3)) wB.heap.size _ _ _ (ic (modG gn (l1.take i))) _ 1 1 [.int .i64 z] (by rfl) (by rfl) how rfl hnw (by simp [Value.oneCell']) (by omega) hs2 ?_
          intro A' d' W4 ho4 hg4 hb4 hat4
          have hp := HSS.out.push0 bb ho4 hg4 hb4 hat4
          have hlo : ∀ b, b < wB.heap.size → W4.heap[b]? = wr.heap[b]? := fun b hb => (hp.bl.block b hb).trans (HSS.out.bl.block b hb).symm
          refine hK.out _ _ ?_ (fun hHeld => ?_)
          · exact ⟨(World.cell?_of_block (a := ⟨w.heap.size, 6, none⟩) (hlo _ KX.out.lt)).trans yx, (World.cell?_of_block (a := ⟨ba, oa + i, none⟩) (hlo ba (by have := KX.out.lt; omega))).trans xe, (World.cell?_of_block (a := ⟨gF, 1, none⟩) (hlo _ KF.out.lt)).trans yf⟩
          clear hK K
          try conv => arg 8; simp only [Act.put, List.setIfInBounds_toArray, List.set_cons_zero, List.set_cons_succ]
          refine wpAnyH_take (i := 13) (v := ?_) (by simp only [List.getElem?_toArray]; rfl) (by kernel_rfl) (by kernel_rfl) (by kernel_rfl) (by exact fun _ _ _ h => h) (Or.inl ⟨by rfl, ?_⟩) (by assumption) ?_
          rotate_left 1
          · intro w hSw; (try dsimp only at hSw); go_simp; try with_reducible rfl
          try conv => arg 8; simp only [Act.put, List.setIfInBounds_toArray, List.set_cons_zero, List.set_cons_succ]
          refine wpAnyH_done (by kernel_rfl) ?_ _
          clear hHeld how hnw hlo
          go_wp2_with fail
          go_roundw
          case rel => first | exact ⟨i + 1, A', d', by omega, by omega, by go_num, rfl, by rw [HMG.out]; exact hp⟩ | exact ⟨i + 1, by omega, by omega, by omega, A', d', rfl, by rw [HMG.out]; exact hp⟩
          case measure => simp [intOf]; omega

        · have i10 : ¬ (i : Int) < 10 := by omega
          have htk : l1.take i = l1.take 10 := by rw [show i = 10 by omega]
          rw [htk] at htw
          obtain ⟨mb, hmb⟩ : ∃ m, i = m := ⟨_, rfl⟩
          obtain ⟨Ab, hAb⟩ : ∃ m, Ax = m := ⟨_, rfl⟩
          obtain ⟨db, hdb⟩ : ∃ m, d = m := ⟨_, rfl⟩
          rw [hmb, hAb, hdb] at htw
          have htw : Two wB wr Ab mb db (modG gn (l1.take 10)) Af 0 0 (modG gn (l2.take 0)) := htw
          go_upto_region 14 with fail
          try rw [hmb]
          try rw [hAb]
          try rw [hdb]
          clear hmb hAb hdb htk yx hi10 hin hlt inn i10 hlt10
          obtain ⟨w9, hw9⟩ : ∃ w9 : World, w9 = wr := ⟨_, rfl⟩
          rw [← hw9] at htw
          try rw [← hw9]
          clear hw9
          go_loopw [9, 11] (fun bv iv wr => ∃ (i : Nat) (Ax : Option Addr) (d : Nat), i ≤ 10 ∧ i ≤ n2 ∧ iv = .int .i64 i ∧ bv = .slice Ax i d ∧ Two wB wr Ab mb db (modG gn (l1.take 10)) Ax i d (modG gn (l2.take i))) (fun _ iv _ => n2 - (intOf iv).toNat)
          case atStart => exact ⟨0, _, _, by omega, by omega, rfl, rfl, htw⟩
          case round =>
            clear htw
            obtain ⟨i, Ax, d, hi10, hin, rfl, rfl, htw⟩ := hrel
            have yx := box_cells (KX.out.below htw.bl KX.out.lt) 7 rfl
            by_cases hlt : i < n2
            · have inn : (i : Int) < (n2 : Int) := by omega
              by_cases hlt10 : i < 10
              · have i10 : (i : Int) < 10 := by omega
                have iz : (0 : Int) ≤ (i : Int) := by omega
                obtain ⟨x, hx⟩ := at_some l2 i (by rw [L2.out]; omega)
                obtain ⟨ba, oa, rfl, hba, hcc⟩ := (HR2.out w (Below.refl _ _)).pos (show 0 < n2 by omega)
                obtain ⟨cs, rfl, hcc2⟩ := hcc i x hx
                have bwr := below_trans2 BB.out htw.bl
                have xe := (bwr.cell (p := ⟨ba, oa + i * 1 + 0, none⟩) hba).trans (hcc2 0 _ rfl)
                rw [Nat.mul_one, Nat.add_zero] at xe
                change ba < w.heap.size at hba
                have HMG := Lib.hid (modG_succ gn hx)
                obtain ⟨z, hz⟩ : ∃ z : Int, x % 65536 % (gn : Int) = z := ⟨_, rfl⟩
                have e1 := and65535 x
                obtain ⟨z0, hz0⟩ : ∃ z0 : Nat, x % 65536 = (z0 : Int) := ⟨(x % 65536).toNat, by omega⟩
                rw [hz0] at e1 hz
                have e2 : (z0 : Int).tmod (gn : Int) = z := by rw [Int.tmod_eq_emod_of_nonneg (by omega)]; exact hz
                rw [hz0, hz] at HMG
                have ez2 : ¬ (gn = 0) := by omega
                have yf := (box_cells (KF.out.below htw.bl KF.out.lt) 1 rfl).trans YF.out
                have HSS := Lib.hid htw
                clear hcc hcc2 hx htw hz hz0 bwr
                go_upto_region 16 with fail
                have HS := Lib.hid fun (W : World) (bW : Below wr.heap.size wr W) => (show W.cell? ⟨w.heap.size, 7, none⟩ = some (.slice (some ⟨ba, oa, none⟩) n2 c2) ∧ W.cell? ⟨ba, oa + i, none⟩ = some (.int .i64 x) ∧ W.cell? ⟨gF, 1, none⟩ = some (.slice f.ga gn f.gc) from ⟨cell_call yx bW, cell_call xe bW, cell_call yf bW⟩)
                have bb := Below.refl wr.heap.size wr
                refine wp_region_held_drew (S := fun w' => w'.cell? ⟨w.heap.size, 7, none⟩ = some (.slice (some ⟨ba, oa, none⟩) n2 c2) ∧ w'.cell? ⟨ba, oa + i, none⟩ = some (.int .i64 x) ∧ w'.cell? ⟨gF, 1, none⟩ = some (.slice f.ga gn f.gc)) (by kernel_rfl) ?_ (fun hHeld => ?_)
                · exact HS.out _ (below_drewN bb 1)
                replace bb := below_drewN bb 1
                change Below _ _ wr.drew at bb
                generalize hw0 : wr.drew = W0 at hHeld bb ⊢
                clear hw0
                refine wpAnyH_take (i := 0) (v := ?_) (by simp only [List.getElem?_toArray]; rfl) (by kernel_rfl) (by kernel_rfl) (by kernel_rfl) (by exact fun _ _ _ h => h) (Or.inl ⟨by rfl, ?_⟩) (by assumption) ?_
                rotate_left 1
                · intro w hSw; (try dsimp only at hSw); go_simp; try with_reducible rfl
                try conv => arg 8; simp only [Act.put, List.setIfInBounds_toArray, List.set_cons_zero, List.set_cons_succ]
                refine wpAnyH_take (i := 1) (v := ?_) (by simp only [List.getElem?_toArray]; rfl) (by kernel_rfl) (by kernel_rfl) (by kernel_rfl) (by exact fun _ _ _ h => h) (Or.inl ⟨by rfl, ?_⟩) (by assumption) ?_
                rotate_left 1
                · intro w hSw; (try dsimp only at hSw); go_simp; try with_reducible rfl
                try conv => arg 8; simp only [Act.put, List.setIfInBounds_toArray, List.set_cons_zero, List.set_cons_succ]
                refine wpAnyH_take (i := 2) (v := ?_) (by simp only [List.getElem?_toArray]; rfl) (by kernel_rfl) (by kernel_rfl) (by kernel_rfl) (by exact fun _ _ _ h => h) (Or.inl ⟨by rfl, ?_⟩) (by assumption) ?_
                rotate_left 1
                · intro w hSw; (try dsimp only at hSw); go_simp; try with_reducible rfl
                try conv => arg 8; simp only [Act.put, List.setIfInBounds_toArray, List.set_cons_zero, List.set_cons_succ]
                refine wpAnyH_take (i := 3) (v := ?_) (by simp only [List.getElem?_toArray]; rfl) (by kernel_rfl) (by kernel_rfl) (by kernel_rfl) (by exact fun _ _ _ h => h) (Or.inl ⟨by rfl, ?_⟩) (by assumption) ?_
                rotate_left 1
                · intro w hSw; (try dsimp only at hSw); go_simp; try with_reducible rfl
                try conv => arg 8; simp only [Act.put, List.setIfInBounds_toArray, List.set_cons_zero, List.set_cons_succ]
                refine wpAnyH_take (i := 4) (v := ?_) (by simp only [List.getElem?_toArray]; rfl) (by kernel_rfl) (by kernel_rfl) (by kernel_rfl) (by exact fun _ _ _ h => h) (Or.inl ⟨by rfl, ?_⟩) (by assumption) ?_
                rotate_left 1
                · intro w hSw; (try dsimp only at hSw); go_simp; try with_reducible rfl
                try conv => arg 8; simp only [Act.put, List.setIfInBounds_toArray, List.set_cons_zero, List.set_cons_succ]
                refine wpAnyH_take (i := 5) (v := ?_) (by simp only [List.getElem?_toArray]; rfl) (by kernel_rfl) (by kernel_rfl) (by kernel_rfl) (by exact fun _ _ _ h => h) (Or.inl ⟨by rfl, ?_⟩) (by assumption) ?_
                rotate_left 1
                · intro w hSw; (try dsimp only at hSw); go_simp; try with_reducible rfl
                try conv => arg 8; simp only [Act.put, List.setIfInBounds_toArray, List.set_cons_zero, List.set_cons_succ]
                refine wpAnyH_take (i := 6) (v := ?_) (by simp only [List.getElem?_toArray]; rfl) (by kernel_rfl) (by kernel_rfl) (by kernel_rfl) (by exact fun _ _ _ h => h) (Or.inl ⟨by rfl, ?_⟩) (by assumption) ?_
                rotate_left 1
                · intro w hSw; (try dsimp only at hSw); go_simp; try with_reducible rfl
                try conv => arg 8; simp only [Act.put, List.setIfInBounds_toArray, List.set_cons_zero, List.set_cons_succ]
                refine wpAnyH_take (i := 7) (v := ?_) (by simp only [List.getElem?_toArray]; rfl) (by kernel_rfl) (by kernel_rfl) (by kernel_rfl) (by exact fun _ _ _ h => h) (Or.inl ⟨by rfl, ?_⟩) (by assumption) ?_
                rotate_left 1
                · intro w hSw; (try dsimp only at hSw); go_simp; try with_reducible rfl
                try conv => arg 8; simp only [Act.put, List.setIfInBounds_toArray, List.set_cons_zero, List.set_cons_succ]
                refine wpAnyH_take (i := 8) (v := ?_) (by simp only [List.getElem?_toArray]; rfl) (by kernel_rfl) (by kernel_rfl) (by kernel_rfl) (by exact fun _ _ _ h => h) (Or.inl ⟨by rfl, ?_⟩) (by assumption) ?_
                rotate_left 1
                · intro w hSw; (try dsimp only at hSw); go_simp; try with_reducible rfl
                try conv => arg 8; simp only [Act.put, List.setIfInBounds_toArray, List.set_cons_zero, List.set_cons_succ]
                refine wpAnyH_take (i := 9) (v := ?_) (by simp only [List.getElem?_toArray]; rfl) (by kernel_rfl) (by kernel_rfl) (by kernel_rfl) (by exact fun _ _ _ h => h) (Or.inl ⟨by rfl, ?_⟩) (by assumption) ?_
                rotate_left 1
                · intro w hSw; (try dsimp only at hSw); go_simp; try with_reducible rfl
                try conv => arg 8; simp only [Act.put, List.setIfInBounds_toArray, List.set_cons_zero, List.set_cons_succ]
                refine wpAnyH_take (i := 10) (v := ?_) (by simp only [List.getElem?_toArray]; rfl) (by kernel_rfl) (by kernel_rfl) (by kernel_rfl) (by exact fun _ _ _ h => h) (Or.inl ⟨by rfl, ?_⟩) (by assumption) ?_
                rotate_left 1
                · intro w hSw; (try dsimp only at hSw); go_simp; try with_reducible rfl
                try conv => arg 8; simp only [Act.put, List.setIfInBounds_toArray, List.set_cons_zero, List.set_cons_succ]
                refine wpAnyH_ready (rs := [11]) (by kernel_rfl) (by simp) ?_
                refine AllReadyH.cons (by simp only [List.getElem?_toArray]; rfl) (fun K hK => ?_) AllReadyH.nil
                refine wanted_pos (by kernel_rfl) ?_
                go_simp
                clear hHeld
                refine hK.out _ _ ?_ (fun hHeld => ?_)
                · exact HS.out _ (below_lit _ _ bb _)
                clear hK K
                try conv => arg 8; simp only [Act.put, List.setIfInBounds_toArray, List.set_cons_zero, List.set_cons_succ]
                refine wpAnyH_ready (rs := [12]) (by kernel_rfl) (by simp) ?_
                refine AllReadyH.cons (by simp only [List.getElem?_toArray]; rfl) (fun K hK => ?_) AllReadyH.nil
                clear hHeld
                have how := (HSS.out.o1.call bb).alloc (.cells #[.int .i64 z] 3)
                have hnw := news_new W0 [.int .i64 z] 3
                have hs2 : wB.heap.size ≤ (W0.alloc (.cells #[.int .i64 z] 3)).heap.size := by rw [World.size_alloc]; have h1 := HSS.out.bl.size; have h2 := bb.size; omega
                refine appStep elt_int (by kernel_rfl) _ _ rfl (W0.alloc (.cells #[.int .i64 z] 3)) wB.heap.size _ _ _ (ic (modG gn (l2.take i))) _ 1 1 [.int .i64 z] (by rfl) (by rfl) how rfl hnw (by simp [Value.oneCell']) (by omega) hs2 ?_
                intro A' d' W4 ho4 hg4 hb4 hat4
                have hp := HSS.out.push1 bb ho4 hg4 hb4 hat4
                have hlo : ∀ b, b < wB.heap.size → W4.heap[b]? = wr.heap[b]? := fun b hb => (hp.bl.block b hb).trans (HSS.out.bl.block b hb).symm
                refine hK.out _ _ ?_ (fun hHeld => ?_)
                · exact ⟨(World.cell?_of_block (a := ⟨w.heap.size, 7, none⟩) (hlo _ KX.out.lt)).trans yx, (World.cell?_of_block (a := ⟨ba, oa + i, none⟩) (hlo ba (by have := KX.out.lt; omega))).trans xe, (World.cell?_of_block (a := ⟨gF, 1, none⟩) (hlo _ KF.out.lt)).trans yf⟩
                clear hK K
                try conv => arg 8; simp only [Act.put, List.setIfInBounds_toArray, List.set_cons_zero, List.set_cons_succ]
                refine wpAnyH_take (i := 13) (v := ?_) (by simp only [List.getElem?_toArray]; rfl) (by kernel_rfl) (by kernel_rfl) (by kernel_rfl) (by exact fun _ _ _ h => h) (Or.inl ⟨by rfl, ?_⟩) (by assumption) ?_
                rotate_left 1
                · intro w hSw; (try dsimp only at hSw); go_simp; try with_reducible rfl
                try conv => arg 8; simp only [Act.put, List.setIfInBounds_toArray, List.set_cons_zero, List.set_cons_succ]
                refine wpAnyH_done (by kernel_rfl) ?_ _
                clear hHeld how hnw hlo
                go_wp2_with fail
                go_roundw
                case rel => first | exact ⟨i + 1, A', d', by omega, by omega, by go_num, rfl, by rw [HMG.out]; exact hp⟩ | exact ⟨i + 1, by omega, by omega, by omega, A', d', rfl, by rw [HMG.out]; exact hp⟩
                case measure => simp [intOf]; omega

              · have i10 : ¬ (i : Int) < 10 := by omega
                have htk : l2.take i = l2.take 10 := by rw [show i = 10 by omega]
                rw [htk] at htw
                have hy0 := modG_ok hgn0 (l1.take 10)
                have hy1 := modG_ok hgn0 (l2.take 10)
                obtain ⟨y0, hY0⟩ : ∃ y, modG gn (l1.take 10) = y := ⟨_, rfl⟩
                obtain ⟨y1, hY1⟩ : ∃ y, modG gn (l2.take 10) = y := ⟨_, rfl⟩
                rw [hY0] at hy0 htw
                rw [hY1] at hy1 htw
                have s0 := (built_says HAU.out y0 hy0).2
                have s1 := (built_says HAU.out y1 hy1).1
                have HND := Lib.hid (show DoesF (fontF gn (madeR (rs.take 3))) 0 b → backA a y0 = backA b y0 ∧ foreA a y1 = foreA b y1 from fun h => ⟨s0.trans (does_says h y0 hy0).2.symm, s1.trans (does_says h y1 hy1).1.symm⟩)
                have hl0 : mb ≤ 9223372036854775807 := by have := htw.o0.cap; omega
                have hl1 : i ≤ 9223372036854775807 := by have := htw.o1.cap; omega
                have bwr := below_trans2 BB.out htw.bl
                have kA := KA.out.below htw.bl KA.out.lt
                have kB := KB.out.below htw.bl KB.out.lt
                have kF := KF.out.below htw.bl KF.out.lt
                have hFw := HFB.out.call htw.bl
                have hAw := HAB.out.call htw.bl
                have hBw := HBB.out.call htw.bl
                have r0 := htw.o0.rd
                have r1 := htw.o1.rd
                have HBa := Lib.hid fun (W : World) (bW : Below wr.heap.size wr W) => Back_c v a Ab mb db y0 W (hAw.call bW) (r0.call bW) hl0
                have HBb := Lib.hid fun (W : World) (bW : Below wr.heap.size wr W) => Back_c u b Ab mb db y0 W (hBw.call bW) (r0.call bW) hl0
                have HFa := Lib.hid fun (W : World) (bW : Below wr.heap.size wr W) => Fore_c v a Ax i d y1 W (hAw.call bW) (r1.call bW) hl1
                have HFb := Lib.hid fun (W : World) (bW : Below wr.heap.size wr W) => Fore_c u b Ax i d y1 W (hBw.call bW) (r1.call bW) hl1
                have HDO := Lib.hid fun (W : World) (bW : Below wr.heap.size wr W) => does_c f (fontF gn (madeR (rs.take 3))) 0 u b W (hFw.call bW) HSM.out (hBw.call bW) (by omega) (by omega)
                obtain ⟨p1, hp1⟩ : ∃ x, backA a y0 = x := ⟨_, rfl⟩
                obtain ⟨p2, hp2⟩ : ∃ x, backA b y0 = x := ⟨_, rfl⟩
                obtain ⟨q1, hq1⟩ : ∃ x, foreA a y1 = x := ⟨_, rfl⟩
                obtain ⟨q2, hq2⟩ : ∃ x, foreA b y1 = x := ⟨_, rfl⟩
                rw [hp1] at HBa
                rw [hp2] at HBb
                rw [hq1] at HFa
                rw [hq2] at HFb
                rw [hp1, hp2, hq1, hq2] at HND
                unfold AV.cells at HBa HBb HFa HFb HDO
                unfold FV.cells at HDO
                clear s0 s1 hy0 hy1 hY0 hY1 htk htw r0 r1 hAw hBw hFw hp1 hp2 hq1 hq2
                have a0 := box_cells kA 0 rfl
                have a1 := box_cells kA 1 rfl
                have a2 := box_cells kA 2 rfl
                have a3 := box_cells kA 3 rfl
                have a4 := box_cells kA 4 rfl
                have c0' := box_cells kB 0 rfl
                have c1' := box_cells kB 1 rfl
                have c2' := box_cells kB 2 rfl
                have c3' := box_cells kB 3 rfl
                have c4' := box_cells kB 4 rfl
                have v0 := box_cells kF 0 rfl
                have v1 := box_cells kF 1 rfl
                have v2 := box_cells kF 2 rfl
                have v3 := box_cells kF 3 rfl
                have v4 := box_cells kF 4 rfl
                have v5 := box_cells kF 5 rfl
                have v6 := box_cells kF 6 rfl
                have v7 := box_cells kF 7 rfl
                have v8 := box_cells kF 8 rfl
                go_upto_region 17 with fail
                clear yx hi10 hin hlt inn i10 hlt10
                have KF3 := Lib.hid kF; have KB3 := Lib.hid kB
                clear v0 v1 v2 v3 v4 v5 v6 v7 v8
                by_cases hpp : p1 = p2
                · have HPP := Lib.hid hpp
                  rw [← hpp] at HBb
                  clear hpp
                  have HS := Lib.hid fun (W : World) (bW : Below wr.heap.size wr W) => (show W.cell? ⟨gA, 0, none⟩ = some (.slice v.ca v.cn v.cc) ∧ W.cell? ⟨gA, 1, none⟩ = some (.slice v.fa v.fn v.fc) ∧ W.cell? ⟨gA, 2, none⟩ = some (.slice v.ba v.bn v.bc) ∧ W.cell? ⟨gA, 3, none⟩ = some (.slice v.ea v.en v.ec) ∧ W.cell? ⟨gA, 4, none⟩ = some (.slice v.ga v.gn v.gc) ∧ W.cell? ⟨gB, 0, none⟩ = some (.slice u.ca u.cn u.cc) ∧ W.cell? ⟨gB, 1, none⟩ = some (.slice u.fa u.fn u.fc) ∧ W.cell? ⟨gB, 2, none⟩ = some (.slice u.ba u.bn u.bc) ∧ W.cell? ⟨gB, 3, none⟩ = some (.slice u.ea u.en u.ec) ∧ W.cell? ⟨gB, 4, none⟩ = some (.slice u.ga u.gn u.gc) from ⟨cell_call a0 bW, cell_call a1 bW, cell_call a2 bW, cell_call a3 bW, cell_call a4 bW, cell_call c0' bW, cell_call c1' bW, cell_call c2' bW, cell_call c3' bW, cell_call c4' bW⟩)
                  have bb := Below.refl wr.heap.size wr
                  refine wp_region_held_drew (S := fun w' => w'.cell? ⟨gA, 0, none⟩ = some (.slice v.ca v.cn v.cc) ∧ w'.cell? ⟨gA, 1, none⟩ = some (.slice v.fa v.fn v.fc) ∧ w'.cell? ⟨gA, 2, none⟩ = some (.slice v.ba v.bn v.bc) ∧ w'.cell? ⟨gA, 3, none⟩ = some (.slice v.ea v.en v.ec) ∧ w'.cell? ⟨gA, 4, none⟩ = some (.slice v.ga v.gn v.gc) ∧ w'.cell? ⟨gB, 0, none⟩ = some (.slice u.ca u.cn u.cc) ∧ w'.cell? ⟨gB, 1, none⟩ = some (.slice u.fa u.fn u.fc) ∧ w'.cell? ⟨gB, 2, none⟩ = some (.slice u.ba u.bn u.bc) ∧ w'.cell? ⟨gB, 3, none⟩ = some (.slice u.ea u.en u.ec) ∧ w'.cell? ⟨gB, 4, none⟩ = some (.slice u.ga u.gn u.gc)) (by kernel_rfl) ?_ (fun hHeld => ?_)
                  · exact HS.out _ (below_drewN bb 1)
                  replace bb := below_drewN bb 1
                  change Below _ _ wr.drew at bb
                  generalize hw0 : wr.drew = W0 at hHeld bb ⊢
                  clear hw0
                  refine wpAnyH_take (i := 0) (v := ?_) (by simp only [List.getElem?_toArray]; rfl) (by kernel_rfl) (by kernel_rfl) (by kernel_rfl) (by exact fun _ _ _ h => h) (Or.inl ⟨by rfl, ?_⟩) (by assumption) ?_
                  rotate_left 1
                  · intro w hSw; (try dsimp only at hSw); go_simp; try with_reducible rfl
                  try conv => arg 8; simp only [Act.put, List.setIfInBounds_toArray, List.set_cons_zero, List.set_cons_succ]
                  refine wpAnyH_take (i := 1) (v := ?_) (by simp only [List.getElem?_toArray]; rfl) (by kernel_rfl) (by kernel_rfl) (by kernel_rfl) (by exact fun _ _ _ h => h) (Or.inl ⟨by rfl, ?_⟩) (by assumption) ?_
                  rotate_left 1
                  · intro w hSw; (try dsimp only at hSw); go_simp; try with_reducible rfl
                  try conv => arg 8; simp only [Act.put, List.setIfInBounds_toArray, List.set_cons_zero, List.set_cons_succ]
                  refine wpAnyH_take (i := 3) (v := ?_) (by simp only [List.getElem?_toArray]; rfl) (by kernel_rfl) (by kernel_rfl) (by kernel_rfl) (by exact fun _ _ _ h => h) (Or.inl ⟨by rfl, ?_⟩) (by assumption) ?_
                  rotate_left 1
                  · intro w hSw; (try dsimp only at hSw); go_simp; try with_reducible rfl
                  try conv => arg 8; simp only [Act.put, List.setIfInBounds_toArray, List.set_cons_zero, List.set_cons_succ]
                  refine wpAnyH_take (i := 4) (v := ?_) (by simp only [List.getElem?_toArray]; rfl) (by kernel_rfl) (by kernel_rfl) (by kernel_rfl) (by exact fun _ _ _ h => h) (Or.inl ⟨by rfl, ?_⟩) (by assumption) ?_
                  rotate_left 1
                  · intro w hSw; (try dsimp only at hSw); go_simp; try with_reducible rfl
                  try conv => arg 8; simp only [Act.put, List.setIfInBounds_toArray, List.set_cons_zero, List.set_cons_succ]
                  refine wpAnyH_ready (rs := [2]) (by kernel_rfl) (by simp) ?_
                  refine AllReadyH.cons (by simp only [List.getElem?_toArray]; rfl) (fun K hK => ?_) AllReadyH.nil
                  refine wanted_pos (by kernel_rfl) ?_
                  go_simp
                  clear hHeld
                  go_at_call 19
                  (with_reducible refine (HBa.out _ bb).mono ?_)
                  rintro e V1 ⟨rfl, bn⟩
                  go_wp2_with fail
                  refine hK.out _ _ ?_ (fun hHeld => ?_)
                  · exact HS.out _ (bb.trans (bn.mono bb.size))
                  clear hK K
                  try conv => arg 8; simp only [Act.put, List.setIfInBounds_toArray, List.set_cons_zero, List.set_cons_succ]
                  replace bb := bb.trans (bn.mono bb.size)
                  clear bn
                  refine wpAnyH_ready (rs := [5]) (by kernel_rfl) (by simp) ?_
                  refine AllReadyH.cons (by simp only [List.getElem?_toArray]; rfl) (fun K hK => ?_) AllReadyH.nil
                  refine wanted_pos (by kernel_rfl) ?_
                  go_simp
                  clear hHeld
                  go_at_call 19
                  (with_reducible refine (HBb.out _ bb).mono ?_)
                  rintro e V2 ⟨rfl, bn⟩
                  go_wp2_with fail
                  refine hK.out _ _ ?_ (fun hHeld => ?_)
                  · exact HS.out _ (bb.trans (bn.mono bb.size))
                  clear hK K
                  try conv => arg 8; simp only [Act.put, List.setIfInBounds_toArray, List.set_cons_zero, List.set_cons_succ]
                  replace bb := bb.trans (bn.mono bb.size)
                  clear bn
                  refine wpAnyH_take (i := 6) (v := ?_) (by simp only [List.getElem?_toArray]; rfl) (by kernel_rfl) (by kernel_rfl) (by kernel_rfl) (by exact fun _ _ _ h => h) (Or.inl ⟨by rfl, ?_⟩) (by assumption) ?_
                  rotate_left 1
                  · intro w hSw; (try dsimp only at hSw); go_simp; try with_reducible rfl
                  try conv => arg 8; simp only [Act.put, List.setIfInBounds_toArray, List.set_cons_zero, List.set_cons_succ]
                  refine wpAnyH_take (i := 7) (v := ?_) (by simp only [List.getElem?_toArray]; rfl) (by kernel_rfl) (by kernel_rfl) (by kernel_rfl) (by exact fun _ _ _ h => h) (Or.inl ⟨by rfl, ?_⟩) (by assumption) ?_
                  rotate_left 1
                  · intro w hSw; (try dsimp only at hSw); go_simp; try with_reducible rfl
                  try conv => arg 8; simp only [Act.put, List.setIfInBounds_toArray, List.set_cons_zero, List.set_cons_succ]
                  refine wpAnyH_take (i := 8) (v := ?_) (by simp only [List.getElem?_toArray]; rfl) (by kernel_rfl) (by kernel_rfl) (by kernel_rfl) (by exact fun _ _ _ h => h) (Or.inl ⟨by rfl, ?_⟩) (by assumption) ?_
                  rotate_left 1
                  · intro w hSw; (try dsimp only at hSw); go_simp; try with_reducible rfl
                  try conv => arg 8; simp only [Act.put, List.setIfInBounds_toArray, List.set_cons_zero, List.set_cons_succ]
                  refine wpAnyH_take (i := 9) (v := ?_) (by simp only [List.getElem?_toArray]; rfl) (by kernel_rfl) (by kernel_rfl) (by kernel_rfl) (by exact fun _ _ _ h => h) (Or.inl ⟨by rfl, ?_⟩) (by assumption) ?_
                  rotate_left 1
                  · intro w hSw; (try dsimp only at hSw); go_simp; try with_reducible rfl
                  try conv => arg 8; simp only [Act.put, List.setIfInBounds_toArray, List.set_cons_zero, List.set_cons_succ]
                  refine wpAnyH_take (i := 11) (v := ?_) (by simp only [List.getElem?_toArray]; rfl) (by kernel_rfl) (by kernel_rfl) (by kernel_rfl) (by exact fun _ _ _ h => h) (Or.inl ⟨by rfl, ?_⟩) (by assumption) ?_
                  rotate_left 1
                  · intro w hSw; (try dsimp only at hSw); go_simp; try with_reducible rfl
                  try conv => arg 8; simp only [Act.put, List.setIfInBounds_toArray, List.set_cons_zero, List.set_cons_succ]
                  refine wpAnyH_take (i := 12) (v := ?_) (by simp only [List.getElem?_toArray]; rfl) (by kernel_rfl) (by kernel_rfl) (by kernel_rfl) (by exact fun _ _ _ h => h) (Or.inl ⟨by rfl, ?_⟩) (by assumption) ?_
                  rotate_left 1
                  · intro w hSw; (try dsimp only at hSw); go_simp; try with_reducible rfl
                  try conv => arg 8; simp only [Act.put, List.setIfInBounds_toArray, List.set_cons_zero, List.set_cons_succ]
                  refine wpAnyH_ready (rs := [10]) (by kernel_rfl) (by simp) ?_
                  refine AllReadyH.cons (by simp only [List.getElem?_toArray]; rfl) (fun K hK => ?_) AllReadyH.nil
                  refine wanted_pos (by kernel_rfl) ?_
                  go_simp
                  clear hHeld
                  go_at_call 20
                  (with_reducible refine (HFa.out _ bb).mono ?_)
                  rintro e V3 ⟨rfl, bn⟩
                  go_wp2_with fail
                  refine hK.out _ _ ?_ (fun hHeld => ?_)
                  · exact HS.out _ (bb.trans (bn.mono bb.size))
                  clear hK K
                  try conv => arg 8; simp only [Act.put, List.setIfInBounds_toArray, List.set_cons_zero, List.set_cons_succ]
                  replace bb := bb.trans (bn.mono bb.size)
                  clear bn
                  refine wpAnyH_ready (rs := [13]) (by kernel_rfl) (by simp) ?_
                  refine AllReadyH.cons (by simp only [List.getElem?_toArray]; rfl) (fun K hK => ?_) AllReadyH.nil
                  refine wanted_pos (by kernel_rfl) ?_
                  go_simp
                  clear hHeld
                  go_at_call 20
                  (with_reducible refine (HFb.out _ bb).mono ?_)
                  rintro e V4 ⟨rfl, bn⟩
                  go_wp2_with fail
                  refine hK.out _ _ ?_ (fun hHeld => ?_)
                  · exact HS.out _ (bb.trans (bn.mono bb.size))
                  clear hK K
                  try conv => arg 8; simp only [Act.put, List.setIfInBounds_toArray, List.set_cons_zero, List.set_cons_succ]
                  replace bb := bb.trans (bn.mono bb.size)
                  clear bn
                  by_cases hqq : q1 = q2
                  · subst hqq
                    refine wpAnyH_take (i := 14) (v := ?_) (by simp only [List.getElem?_toArray]; rfl) (by kernel_rfl) (by kernel_rfl) (by kernel_rfl) (by exact fun _ _ _ h => h) (Or.inl ⟨by rfl, ?_⟩) (by assumption) ?_
                    rotate_left 1
                    · intro w hSw; (try dsimp only at hSw); go_simp; try with_reducible rfl
                    try conv => arg 8; simp only [Act.put, List.setIfInBounds_toArray, List.set_cons_zero, List.set_cons_succ]
                    refine wpAnyH_take (i := 15) (v := ?_) (by simp only [List.getElem?_toArray]; rfl) (by kernel_rfl) (by kernel_rfl) (by kernel_rfl) (by exact fun _ _ _ h => h) (Or.inl ⟨by rfl, ?_⟩) (by assumption) ?_
                    rotate_left 1
                    · intro w hSw; (try dsimp only at hSw); go_simp; try with_reducible rfl
                    try conv => arg 8; simp only [Act.put, List.setIfInBounds_toArray, List.set_cons_zero, List.set_cons_succ]
                    refine wpAnyH_take (i := 16) (v := ?_) (by simp only [List.getElem?_toArray]; rfl) (by kernel_rfl) (by kernel_rfl) (by kernel_rfl) (by exact fun _ _ _ h => h) (Or.inl ⟨by rfl, ?_⟩) (by assumption) ?_
                    rotate_left 1
                    · intro w hSw; (try dsimp only at hSw); go_simp; try with_reducible rfl
                    try conv => arg 8; simp only [Act.put, List.setIfInBounds_toArray, List.set_cons_zero, List.set_cons_succ]
                    refine wpAnyH_done (by kernel_rfl) ?_ _
                    clear HS
                    replace bwr := bwr.trans (bb.mono bwr.size)
                    clear hHeld a0 a1 a2 a3 a4 c0' c1' c2' c3' c4' HDO kA kB kF
                    go_wp2
                    go_ret
                    exact ⟨rfl, bwr⟩
                  · have hb1 : ((q1 : Int) == (q2 : Int)) = false := by simp; omega
                    have hb2 : (q1 == q2) = false := by simp; omega
                    have hb3 : decide ((q1 : Int) = (q2 : Int)) = false := by simp; omega
                    have hb4 : decide (q1 = q2) = false := by simp; omega
                    refine wpAnyH_take (i := 14) (v := ?_) (by simp only [List.getElem?_toArray]; rfl) (by kernel_rfl) (by kernel_rfl) (by kernel_rfl) (by exact fun _ _ _ h => h) (Or.inl ⟨by rfl, ?_⟩) (by assumption) ?_
                    rotate_left 1
                    · intro w hSw; (try dsimp only at hSw); go_simp; try with_reducible rfl
                    try conv => arg 8; simp only [Act.put, List.setIfInBounds_toArray, List.set_cons_zero, List.set_cons_succ]
                    refine wpAnyH_take (i := 15) (v := ?_) (by simp only [List.getElem?_toArray]; rfl) (by kernel_rfl) (by kernel_rfl) (by kernel_rfl) (by exact fun _ _ _ h => h) (Or.inl ⟨by rfl, ?_⟩) (by assumption) ?_
                    rotate_left 1
                    · intro w hSw; (try dsimp only at hSw); go_simp; try with_reducible rfl
                    try conv => arg 8; simp only [Act.put, List.setIfInBounds_toArray, List.set_cons_zero, List.set_cons_succ]
                    refine wpAnyH_take (i := 16) (v := ?_) (by simp only [List.getElem?_toArray]; rfl) (by kernel_rfl) (by kernel_rfl) (by kernel_rfl) (by exact fun _ _ _ h => h) (Or.inl ⟨by rfl, ?_⟩) (by assumption) ?_
                    rotate_left 1
                    · intro w hSw; (try dsimp only at hSw); go_simp; try with_reducible rfl
                    try conv => arg 8; simp only [Act.put, List.setIfInBounds_toArray, List.set_cons_zero, List.set_cons_succ]
                    refine wpAnyH_done (by kernel_rfl) ?_ _
                    clear HS
                    replace bwr := bwr.trans (bb.mono bwr.size)
                    have kF := KF3.out.below bb KF3.out.lt
                    have kB := KB3.out.below bb KB3.out.lt
                    have v0 := box_cells kF 0 rfl
                    have v1 := box_cells kF 1 rfl
                    have v2 := box_cells kF 2 rfl
                    have v3 := box_cells kF 3 rfl
                    have v4 := box_cells kF 4 rfl
                    have v5 := box_cells kF 5 rfl
                    have v6 := box_cells kF 6 rfl
                    have v7 := box_cells kF 7 rfl
                    have v8 := box_cells kF 8 rfl
                    have c0'' := box_cells kB 0 rfl
                    have c1'' := box_cells kB 1 rfl
                    have c2'' := box_cells kB 2 rfl
                    have c3'' := box_cells kB 3 rfl
                    have c4'' := box_cells kB 4 rfl
                    have HDD := Lib.hid (HDO.out _ bb)
                    clear hHeld a0 a1 a2 a3 a4 c0' c1' c2' c3' c4' HDO
                    go_wp2_with fail
                    refine HDD.out.mono ?_
                    rintro e w12 ⟨bn, bz, rfl, hbz⟩
                    obtain rfl : bz = false := by
                      cases bz with
                      | false => rfl
                      | true => exact absurd (HND.out (hbz.1 rfl)) (by intro h; exact hqq h.2)
                    replace bwr := below_call bwr bn
                    go_wp2
                    go_ret
                    exact ⟨rfl, bwr⟩

                · have hpn : ¬ (p1 = p2) := hpp
                  have hb1 : ((p1 : Int) == (p2 : Int)) = false := by simp; omega
                  have hb2 : (p1 == p2) = false := by simp; omega
                  have hb3 : decide ((p1 : Int) = (p2 : Int)) = false := by simp; omega
                  have hb4 : decide (p1 = p2) = false := by simp; omega
                  have HS := Lib.hid fun (W : World) (bW : Below wr.heap.size wr W) => (show W.cell? ⟨gA, 0, none⟩ = some (.slice v.ca v.cn v.cc) ∧ W.cell? ⟨gA, 1, none⟩ = some (.slice v.fa v.fn v.fc) ∧ W.cell? ⟨gA, 2, none⟩ = some (.slice v.ba v.bn v.bc) ∧ W.cell? ⟨gA, 3, none⟩ = some (.slice v.ea v.en v.ec) ∧ W.cell? ⟨gA, 4, none⟩ = some (.slice v.ga v.gn v.gc) ∧ W.cell? ⟨gB, 0, none⟩ = some (.slice u.ca u.cn u.cc) ∧ W.cell? ⟨gB, 1, none⟩ = some (.slice u.fa u.fn u.fc) ∧ W.cell? ⟨gB, 2, none⟩ = some (.slice u.ba u.bn u.bc) ∧ W.cell? ⟨gB, 3, none⟩ = some (.slice u.ea u.en u.ec) ∧ W.cell? ⟨gB, 4, none⟩ = some (.slice u.ga u.gn u.gc) from ⟨cell_call a0 bW, cell_call a1 bW, cell_call a2 bW, cell_call a3 bW, cell_call a4 bW, cell_call c0' bW, cell_call c1' bW, cell_call c2' bW, cell_call c3' bW, cell_call c4' bW⟩)
                  have bb := Below.refl wr.heap.size wr
                  refine wp_region_held_drew (S := fun w' => w'.cell? ⟨gA, 0, none⟩ = some (.slice v.ca v.cn v.cc) ∧ w'.cell? ⟨gA, 1, none⟩ = some (.slice v.fa v.fn v.fc) ∧ w'.cell? ⟨gA, 2, none⟩ = some (.slice v.ba v.bn v.bc) ∧ w'.cell? ⟨gA, 3, none⟩ = some (.slice v.ea v.en v.ec) ∧ w'.cell? ⟨gA, 4, none⟩ = some (.slice v.ga v.gn v.gc) ∧ w'.cell? ⟨gB, 0, none⟩ = some (.slice u.ca u.cn u.cc) ∧ w'.cell? ⟨gB, 1, none⟩ = some (.slice u.fa u.fn u.fc) ∧ w'.cell? ⟨gB, 2, none⟩ = some (.slice u.ba u.bn u.bc) ∧ w'.cell? ⟨gB, 3, none⟩ = some (.slice u.ea u.en u.ec) ∧ w'.cell? ⟨gB, 4, none⟩ = some (.slice u.ga u.gn u.gc)) (by kernel_rfl) ?_ (fun hHeld => ?_)
                  · exact HS.out _ (below_drewN bb 1)
                  replace bb := below_drewN bb 1
                  change Below _ _ wr.drew at bb
                  generalize hw0 : wr.drew = W0 at hHeld bb ⊢
                  clear hw0
                  refine wpAnyH_take (i := 0) (v := ?_) (by simp only [List.getElem?_toArray]; rfl) (by kernel_rfl) (by kernel_rfl) (by kernel_rfl) (by exact fun _ _ _ h => h) (Or.inl ⟨by rfl, ?_⟩) (by assumption) ?_
                  rotate_left 1
                  · intro w hSw; (try dsimp only at hSw); go_simp; try with_reducible rfl
                  try conv => arg 8; simp only [Act.put, List.setIfInBounds_toArray, List.set_cons_zero, List.set_cons_succ]
                  refine wpAnyH_take (i := 1) (v := ?_) (by simp only [List.getElem?_toArray]; rfl) (by kernel_rfl) (by kernel_rfl) (by kernel_rfl) (by exact fun _ _ _ h => h) (Or.inl ⟨by rfl, ?_⟩) (by assumption) ?_
                  rotate_left 1
                  · intro w hSw; (try dsimp only at hSw); go_simp; try with_reducible rfl
                  try conv => arg 8; simp only [Act.put, List.setIfInBounds_toArray, List.set_cons_zero, List.set_cons_succ]
                  refine wpAnyH_take (i := 3) (v := ?_) (by simp only [List.getElem?_toArray]; rfl) (by kernel_rfl) (by kernel_rfl) (by kernel_rfl) (by exact fun _ _ _ h => h) (Or.inl ⟨by rfl, ?_⟩) (by assumption) ?_
                  rotate_left 1
                  · intro w hSw; (try dsimp only at hSw); go_simp; try with_reducible rfl
                  try conv => arg 8; simp only [Act.put, List.setIfInBounds_toArray, List.set_cons_zero, List.set_cons_succ]
                  refine wpAnyH_take (i := 4) (v := ?_) (by simp only [List.getElem?_toArray]; rfl) (by kernel_rfl) (by kernel_rfl) (by kernel_rfl) (by exact fun _ _ _ h => h) (Or.inl ⟨by rfl, ?_⟩) (by assumption) ?_
                  rotate_left 1
                  · intro w hSw; (try dsimp only at hSw); go_simp; try with_reducible rfl
                  try conv => arg 8; simp only [Act.put, List.setIfInBounds_toArray, List.set_cons_zero, List.set_cons_succ]
                  refine wpAnyH_ready (rs := [2]) (by kernel_rfl) (by simp) ?_
                  refine AllReadyH.cons (by simp only [List.getElem?_toArray]; rfl) (fun K hK => ?_) AllReadyH.nil
                  refine wanted_pos (by kernel_rfl) ?_
                  go_simp
                  clear hHeld
                  go_at_call 19
                  (with_reducible refine (HBa.out _ bb).mono ?_)
                  rintro e V1 ⟨rfl, bn⟩
                  go_wp2_with fail
                  refine hK.out _ _ ?_ (fun hHeld => ?_)
                  · exact HS.out _ (bb.trans (bn.mono bb.size))
                  clear hK K
                  try conv => arg 8; simp only [Act.put, List.setIfInBounds_toArray, List.set_cons_zero, List.set_cons_succ]
                  replace bb := bb.trans (bn.mono bb.size)
                  clear bn
                  refine wpAnyH_ready (rs := [5]) (by kernel_rfl) (by simp) ?_
                  refine AllReadyH.cons (by simp only [List.getElem?_toArray]; rfl) (fun K hK => ?_) AllReadyH.nil
                  refine wanted_pos (by kernel_rfl) ?_
                  go_simp
                  clear hHeld
                  go_at_call 19
                  (with_reducible refine (HBb.out _ bb).mono ?_)
                  rintro e V2 ⟨rfl, bn⟩
                  go_wp2_with fail
                  refine hK.out _ _ ?_ (fun hHeld => ?_)
                  · exact HS.out _ (bb.trans (bn.mono bb.size))
                  clear hK K
                  try conv => arg 8; simp only [Act.put, List.setIfInBounds_toArray, List.set_cons_zero, List.set_cons_succ]
                  replace bb := bb.trans (bn.mono bb.size)
                  clear bn
                  refine wpAnyH_take (i := 6) (v := ?_) (by simp only [List.getElem?_toArray]; rfl) (by kernel_rfl) (by kernel_rfl) (by kernel_rfl) (by exact fun _ _ _ h => h) (Or.inl ⟨by rfl, ?_⟩) (by assumption) ?_
                  rotate_left 1
                  · intro w hSw; (try dsimp only at hSw); go_simp; try with_reducible rfl
                  try conv => arg 8; simp only [Act.put, List.setIfInBounds_toArray, List.set_cons_zero, List.set_cons_succ]
                  refine wpAnyH_take (i := 7) (v := ?_) (by simp only [List.getElem?_toArray]; rfl) (by kernel_rfl) (by kernel_rfl) (by kernel_rfl) (by exact fun _ _ _ h => h) (Or.inl ⟨by rfl, ?_⟩) (by assumption) ?_
                  rotate_left 1
                  · intro w hSw; (try dsimp only at hSw); go_simp; try with_reducible rfl
                  try conv => arg 8; simp only [Act.put, List.setIfInBounds_toArray, List.set_cons_zero, List.set_cons_succ]
                  refine wpAnyH_take (i := 8) (v := undef) (by simp only [List.getElem?_toArray]; rfl) (by kernel_rfl) (by kernel_rfl) (by kernel_rfl) (by exact fun _ _ _ h => h) (Or.inr ⟨by rfl, rfl⟩) (by assumption) ?_
                  try conv => arg 8; simp only [Act.put, List.setIfInBounds_toArray, List.set_cons_zero, List.set_cons_succ]
                  refine wpAnyH_take (i := 9) (v := undef) (by simp only [List.getElem?_toArray]; rfl) (by kernel_rfl) (by kernel_rfl) (by kernel_rfl) (by exact fun _ _ _ h => h) (Or.inr ⟨by rfl, rfl⟩) (by assumption) ?_
                  try conv => arg 8; simp only [Act.put, List.setIfInBounds_toArray, List.set_cons_zero, List.set_cons_succ]
                  refine wpAnyH_take (i := 10) (v := undef) (by simp only [List.getElem?_toArray]; rfl) (by kernel_rfl) (by kernel_rfl) (by kernel_rfl) (by exact fun _ _ _ h => h) (Or.inr ⟨by rfl, rfl⟩) (by assumption) ?_
                  try conv => arg 8; simp only [Act.put, List.setIfInBounds_toArray, List.set_cons_zero, List.set_cons_succ]
                  refine wpAnyH_take (i := 11) (v := undef) (by simp only [List.getElem?_toArray]; rfl) (by kernel_rfl) (by kernel_rfl) (by kernel_rfl) (by exact fun _ _ _ h => h) (Or.inr ⟨by rfl, rfl⟩) (by assumption) ?_
                  try conv => arg 8; simp only [Act.put, List.setIfInBounds_toArray, List.set_cons_zero, List.set_cons_succ]
                  refine wpAnyH_take (i := 12) (v := undef) (by simp only [List.getElem?_toArray]; rfl) (by kernel_rfl) (by kernel_rfl) (by kernel_rfl) (by exact fun _ _ _ h => h) (Or.inr ⟨by rfl, rfl⟩) (by assumption) ?_
                  try conv => arg 8; simp only [Act.put, List.setIfInBounds_toArray, List.set_cons_zero, List.set_cons_succ]
                  refine wpAnyH_take (i := 13) (v := undef) (by simp only [List.getElem?_toArray]; rfl) (by kernel_rfl) (by kernel_rfl) (by kernel_rfl) (by exact fun _ _ _ h => h) (Or.inr ⟨by rfl, rfl⟩) (by assumption) ?_
                  try conv => arg 8; simp only [Act.put, List.setIfInBounds_toArray, List.set_cons_zero, List.set_cons_succ]
                  refine wpAnyH_take (i := 14) (v := undef) (by simp only [List.getElem?_toArray]; rfl) (by kernel_rfl) (by kernel_rfl) (by kernel_rfl) (by exact fun _ _ _ h => h) (Or.inr ⟨by rfl, rfl⟩) (by assumption) ?_
                  try conv => arg 8; simp only [Act.put, List.setIfInBounds_toArray, List.set_cons_zero, List.set_cons_succ]
                  refine wpAnyH_take (i := 15) (v := ?_) (by simp only [List.getElem?_toArray]; rfl) (by kernel_rfl) (by kernel_rfl) (by kernel_rfl) (by exact fun _ _ _ h => h) (Or.inl ⟨by rfl, ?_⟩) (by assumption) ?_
                  rotate_left 1
                  · intro w hSw; (try dsimp only at hSw); go_simp; try with_reducible rfl
                  try conv => arg 8; simp only [Act.put, List.setIfInBounds_toArray, List.set_cons_zero, List.set_cons_succ]
                  refine wpAnyH_take (i := 16) (v := ?_) (by simp only [List.getElem?_toArray]; rfl) (by kernel_rfl) (by kernel_rfl) (by kernel_rfl) (by exact fun _ _ _ h => h) (Or.inl ⟨by rfl, ?_⟩) (by assumption) ?_
                  rotate_left 1
                  · intro w hSw; (try dsimp only at hSw); go_simp; try with_reducible rfl
                  try conv => arg 8; simp only [Act.put, List.setIfInBounds_toArray, List.set_cons_zero, List.set_cons_succ]
                  refine wpAnyH_done (by kernel_rfl) ?_ _
                  clear HS
                  replace bwr := bwr.trans (bb.mono bwr.size)
                  have kF := KF3.out.below bb KF3.out.lt
                  have kB := KB3.out.below bb KB3.out.lt
                  have v0 := box_cells kF 0 rfl
                  have v1 := box_cells kF 1 rfl
                  have v2 := box_cells kF 2 rfl
                  have v3 := box_cells kF 3 rfl
                  have v4 := box_cells kF 4 rfl
                  have v5 := box_cells kF 5 rfl
                  have v6 := box_cells kF 6 rfl
                  have v7 := box_cells kF 7 rfl
                  have v8 := box_cells kF 8 rfl
                  have c0'' := box_cells kB 0 rfl
                  have c1'' := box_cells kB 1 rfl
                  have c2'' := box_cells kB 2 rfl
                  have c3'' := box_cells kB 3 rfl
                  have c4'' := box_cells kB 4 rfl
                  have HDD := Lib.hid (HDO.out _ bb)
                  clear hHeld a0 a1 a2 a3 a4 c0' c1' c2' c3' c4' HDO
                  go_wp2_with fail
                  refine HDD.out.mono ?_
                  rintro e w12 ⟨bn, bz, rfl, hbz⟩
                  obtain rfl : bz = false := by
                    cases bz with
                    | false => rfl
                    | true => exact absurd (HND.out (hbz.1 rfl)) (by intro h; exact hpn h.1)
                  replace bwr := below_call bwr bn
                  go_wp2
                  go_ret
                  exact ⟨rfl, bwr⟩


            · have inn : ¬ (i : Int) < (n2 : Int) := by omega
              have htk : l2.take i = l2.take 10 := by rw [List.take_of_length_le (show l2.length ≤ 10 by rw [L2.out]; omega), List.take_of_length_le (show l2.length ≤ i by rw [L2.out]; omega)]
              rw [htk] at htw
              have hy0 := modG_ok hgn0 (l1.take 10)
              have hy1 := modG_ok hgn0 (l2.take 10)
              obtain ⟨y0, hY0⟩ : ∃ y, modG gn (l1.take 10) = y := ⟨_, rfl⟩
              obtain ⟨y1, hY1⟩ : ∃ y, modG gn (l2.take 10) = y := ⟨_, rfl⟩
              rw [hY0] at hy0 htw
              rw [hY1] at hy1 htw
              have s0 := (built_says HAU.out y0 hy0).2
              have s1 := (built_says HAU.out y1 hy1).1
              have HND := Lib.hid (show DoesF (fontF gn (madeR (rs.take 3))) 0 b → backA a y0 = backA b y0 ∧ foreA a y1 = foreA b y1 from fun h => ⟨s0.trans (does_says h y0 hy0).2.symm, s1.trans (does_says h y1 hy1).1.symm⟩)
              have hl0 : mb ≤ 9223372036854775807 := by have := htw.o0.cap; omega
              have hl1 : i ≤ 9223372036854775807 := by have := htw.o1.cap; omega
              have bwr := below_trans2 BB.out htw.bl
              have kA := KA.out.below htw.bl KA.out.lt
              have kB := KB.out.below htw.bl KB.out.lt
              have kF := KF.out.below htw.bl KF.out.lt
              have hFw := HFB.out.call htw.bl
              have hAw := HAB.out.call htw.bl
              have hBw := HBB.out.call htw.bl
              have r0 := htw.o0.rd
              have r1 := htw.o1.rd
              have HBa := Lib.hid fun (W : World) (bW : Below wr.heap.size wr W) => Back_c v a Ab mb db y0 W (hAw.call bW) (r0.call bW) hl0
              have HBb := Lib.hid fun (W : World) (bW : Below wr.heap.size wr W) => Back_c u b Ab mb db y0 W (hBw.call bW) (r0.call bW) hl0
              have HFa := Lib.hid fun (W : World) (bW : Below wr.heap.size wr W) => Fore_c v a Ax i d y1 W (hAw.call bW) (r1.call bW) hl1
              have HFb := Lib.hid fun (W : World) (bW : Below wr.heap.size wr W) => Fore_c u b Ax i d y1 W (hBw.call bW) (r1.call bW) hl1
              have HDO := Lib.hid fun (W : World) (bW : Below wr.heap.size wr W) => does_c f (fontF gn (madeR (rs.take 3))) 0 u b W (hFw.call bW) HSM.out (hBw.call bW) (by omega) (by omega)
              obtain ⟨p1, hp1⟩ : ∃ x, backA a y0 = x := ⟨_, rfl⟩
              obtain ⟨p2, hp2⟩ : ∃ x, backA b y0 = x := ⟨_, rfl⟩
              obtain ⟨q1, hq1⟩ : ∃ x, foreA a y1 = x := ⟨_, rfl⟩
              obtain ⟨q2, hq2⟩ : ∃ x, foreA b y1 = x := ⟨_, rfl⟩
              rw [hp1] at HBa
              rw [hp2] at HBb
              rw [hq1] at HFa
              rw [hq2] at HFb
              rw [hp1, hp2, hq1, hq2] at HND
              unfold AV.cells at HBa HBb HFa HFb HDO
              unfold FV.cells at HDO
              clear s0 s1 hy0 hy1 hY0 hY1 htk htw r0 r1 hAw hBw hFw hp1 hp2 hq1 hq2
              have a0 := box_cells kA 0 rfl
              have a1 := box_cells kA 1 rfl
              have a2 := box_cells kA 2 rfl
              have a3 := box_cells kA 3 rfl
              have a4 := box_cells kA 4 rfl
              have c0' := box_cells kB 0 rfl
              have c1' := box_cells kB 1 rfl
              have c2' := box_cells kB 2 rfl
              have c3' := box_cells kB 3 rfl
              have c4' := box_cells kB 4 rfl
              have v0 := box_cells kF 0 rfl
              have v1 := box_cells kF 1 rfl
              have v2 := box_cells kF 2 rfl
              have v3 := box_cells kF 3 rfl
              have v4 := box_cells kF 4 rfl
              have v5 := box_cells kF 5 rfl
              have v6 := box_cells kF 6 rfl
              have v7 := box_cells kF 7 rfl
              have v8 := box_cells kF 8 rfl
              go_upto_region 17 with fail
              clear yx hi10 hin hlt inn
              have KF3 := Lib.hid kF; have KB3 := Lib.hid kB
              clear v0 v1 v2 v3 v4 v5 v6 v7 v8
              by_cases hpp : p1 = p2
              · have HPP := Lib.hid hpp
                rw [← hpp] at HBb
                clear hpp
                have HS := Lib.hid fun (W : World) (bW : Below wr.heap.size wr W) => (show W.cell? ⟨gA, 0, none⟩ = some (.slice v.ca v.cn v.cc) ∧ W.cell? ⟨gA, 1, none⟩ = some (.slice v.fa v.fn v.fc) ∧ W.cell? ⟨gA, 2, none⟩ = some (.slice v.ba v.bn v.bc) ∧ W.cell? ⟨gA, 3, none⟩ = some (.slice v.ea v.en v.ec) ∧ W.cell? ⟨gA, 4, none⟩ = some (.slice v.ga v.gn v.gc) ∧ W.cell? ⟨gB, 0, none⟩ = some (.slice u.ca u.cn u.cc) ∧ W.cell? ⟨gB, 1, none⟩ = some (.slice u.fa u.fn u.fc) ∧ W.cell? ⟨gB, 2, none⟩ = some (.slice u.ba u.bn u.bc) ∧ W.cell? ⟨gB, 3, none⟩ = some (.slice u.ea u.en u.ec) ∧ W.cell? ⟨gB, 4, none⟩ = some (.slice u.ga u.gn u.gc) from ⟨cell_call a0 bW, cell_call a1 bW, cell_call a2 bW, cell_call a3 bW, cell_call a4 bW, cell_call c0' bW, cell_call c1' bW, cell_call c2' bW, cell_call c3' bW, cell_call c4' bW⟩)
                have bb := Below.refl wr.heap.size wr
                refine wp_region_held_drew (S := fun w' => w'.cell? ⟨gA, 0, none⟩ = some (.slice v.ca v.cn v.cc) ∧ w'.cell? ⟨gA, 1, none⟩ = some (.slice v.fa v.fn v.fc) ∧ w'.cell? ⟨gA, 2, none⟩ = some (.slice v.ba v.bn v.bc) ∧ w'.cell? ⟨gA, 3, none⟩ = some (.slice v.ea v.en v.ec) ∧ w'.cell? ⟨gA, 4, none⟩ = some (.slice v.ga v.gn v.gc) ∧ w'.cell? ⟨gB, 0, none⟩ = some (.slice u.ca u.cn u.cc) ∧ w'.cell? ⟨gB, 1, none⟩ = some (.slice u.fa u.fn u.fc) ∧ w'.cell? ⟨gB, 2, none⟩ = some (.slice u.ba u.bn u.bc) ∧ w'.cell? ⟨gB, 3, none⟩ = some (.slice u.ea u.en u.ec) ∧ w'.cell? ⟨gB, 4, none⟩ = some (.slice u.ga u.gn u.gc)) (by kernel_rfl) ?_ (fun hHeld => ?_)
                · exact HS.out _ (below_drewN bb 1)
                replace bb := below_drewN bb 1
                change Below _ _ wr.drew at bb
                generalize hw0 : wr.drew = W0 at hHeld bb ⊢
                clear hw0
                refine wpAnyH_take (i := 0) (v := ?_) (by simp only [List.getElem?_toArray]; rfl) (by kernel_rfl) (by kernel_rfl) (by kernel_rfl) (by exact fun _ _ _ h => h) (Or.inl ⟨by rfl, ?_⟩) (by assumption) ?_
                rotate_left 1
                · intro w hSw; (try dsimp only at hSw); go_simp; try with_reducible rfl
                try conv => arg 8; simp only [Act.put, List.setIfInBounds_toArray, List.set_cons_zero, List.set_cons_succ]
                refine wpAnyH_take (i := 1) (v := ?_) (by simp only [List.getElem?_toArray]; rfl) (by kernel_rfl) (by kernel_rfl) (by kernel_rfl) (by exact fun _ _ _ h => h) (Or.inl ⟨by rfl, ?_⟩) (by assumption) ?_
                rotate_left 1
                · intro w hSw; (try dsimp only at hSw); go_simp; try with_reducible rfl
                try conv => arg 8; simp only [Act.put, List.setIfInBounds_toArray, List.set_cons_zero, List.set_cons_succ]
                refine wpAnyH_take (i := 3) (v := ?_) (by simp only [List.getElem?_toArray]; rfl) (by kernel_rfl) (by kernel_rfl) (by kernel_rfl) (by exact fun _ _ _ h => h) (Or.inl ⟨by rfl, ?_⟩) (by assumption) ?_
                rotate_left 1
                · intro w hSw; (try dsimp only at hSw); go_simp; try with_reducible rfl
                try conv => arg 8; simp only [Act.put, List.setIfInBounds_toArray, List.set_cons_zero, List.set_cons_succ]
                refine wpAnyH_take (i := 4) (v := ?_) (by simp only [List.getElem?_toArray]; rfl) (by kernel_rfl) (by kernel_rfl) (by kernel_rfl) (by exact fun _ _ _ h => h) (Or.inl ⟨by rfl, ?_⟩) (by assumption) ?_
                rotate_left 1
                · intro w hSw; (try dsimp only at hSw); go_simp; try with_reducible rfl
                try conv => arg 8; simp only [Act.put, List.setIfInBounds_toArray, List.set_cons_zero, List.set_cons_succ]
                refine wpAnyH_ready (rs := [2]) (by kernel_rfl) (by simp) ?_
                refine AllReadyH.cons (by simp only [List.getElem?_toArray]; rfl) (fun K hK => ?_) AllReadyH.nil
                refine wanted_pos (by kernel_rfl) ?_
                go_simp
                clear hHeld
                go_at_call 19
                (with_reducible refine (HBa.out _ bb).mono ?_)
                rintro e V1 ⟨rfl, bn⟩
                go_wp2_with fail
                refine hK.out _ _ ?_ (fun hHeld => ?_)
                · exact HS.out _ (bb.trans (bn.mono bb.size))
                clear hK K
                try conv => arg 8; simp only [Act.put, List.setIfInBounds_toArray, List.set_cons_zero, List.set_cons_succ]
                replace bb := bb.trans (bn.mono bb.size)
                clear bn
                refine wpAnyH_ready (rs := [5]) (by kernel_rfl) (by simp) ?_
                refine AllReadyH.cons (by simp only [List.getElem?_toArray]; rfl) (fun K hK => ?_) AllReadyH.nil
                refine wanted_pos (by kernel_rfl) ?_
                go_simp
                clear hHeld
                go_at_call 19
                (with_reducible refine (HBb.out _ bb).mono ?_)
                rintro e V2 ⟨rfl, bn⟩
                go_wp2_with fail
                refine hK.out _ _ ?_ (fun hHeld => ?_)
                · exact HS.out _ (bb.trans (bn.mono bb.size))
                clear hK K
                try conv => arg 8; simp only [Act.put, List.setIfInBounds_toArray, List.set_cons_zero, List.set_cons_succ]
                replace bb := bb.trans (bn.mono bb.size)
                clear bn
                refine wpAnyH_take (i := 6) (v := ?_) (by simp only [List.getElem?_toArray]; rfl) (by kernel_rfl) (by kernel_rfl) (by kernel_rfl) (by exact fun _ _ _ h => h) (Or.inl ⟨by rfl, ?_⟩) (by assumption) ?_
                rotate_left 1
                · intro w hSw; (try dsimp only at hSw); go_simp; try with_reducible rfl
                try conv => arg 8; simp only [Act.put, List.setIfInBounds_toArray, List.set_cons_zero, List.set_cons_succ]
                refine wpAnyH_take (i := 7) (v := ?_) (by simp only [List.getElem?_toArray]; rfl) (by kernel_rfl) (by kernel_rfl) (by kernel_rfl) (by exact fun _ _ _ h => h) (Or.inl ⟨by rfl, ?_⟩) (by assumption) ?_
                rotate_left 1
                · intro w hSw; (try dsimp only at hSw); go_simp; try with_reducible rfl
                try conv => arg 8; simp only [Act.put, List.setIfInBounds_toArray, List.set_cons_zero, List.set_cons_succ]
                refine wpAnyH_take (i := 8) (v := ?_) (by simp only [List.getElem?_toArray]; rfl) (by kernel_rfl) (by kernel_rfl) (by kernel_rfl) (by exact fun _ _ _ h => h) (Or.inl ⟨by rfl, ?_⟩) (by assumption) ?_
                rotate_left 1
                · intro w hSw; (try dsimp only at hSw); go_simp; try with_reducible rfl
                try conv => arg 8; simp only [Act.put, List.setIfInBounds_toArray, List.set_cons_zero, List.set_cons_succ]
                refine wpAnyH_take (i := 9) (v := ?_) (by simp only [List.getElem?_toArray]; rfl) (by kernel_rfl) (by kernel_rfl) (by kernel_rfl) (by exact fun _ _ _ h => h) (Or.inl ⟨by rfl, ?_⟩) (by assumption) ?_
                rotate_left 1
                · intro w hSw; (try dsimp only at hSw); go_simp; try with_reducible rfl
                try conv => arg 8; simp only [Act.put, List.setIfInBounds_toArray, List.set_cons_zero, List.set_cons_succ]
                refine wpAnyH_take (i := 11) (v := ?_) (by simp only [List.getElem?_toArray]; rfl) (by kernel_rfl) (by kernel_rfl) (by kernel_rfl) (by exact fun _ _ _ h => h) (Or.inl ⟨by rfl, ?_⟩) (by assumption) ?_
                rotate_left 1
                · intro w hSw; (try dsimp only at hSw); go_simp; try with_reducible rfl
                try conv => arg 8; simp only [Act.put, List.setIfInBounds_toArray, List.set_cons_zero, List.set_cons_succ]
                refine wpAnyH_take (i := 12) (v := ?_) (by simp only [List.getElem?_toArray]; rfl) (by kernel_rfl) (by kernel_rfl) (by kernel_rfl) (by exact fun _ _ _ h => h) (Or.inl ⟨by rfl, ?_⟩) (by assumption) ?_
                rotate_left 1
                · intro w hSw; (try dsimp only at hSw); go_simp; try with_reducible rfl
                try conv => arg 8; simp only [Act.put, List.setIfInBounds_toArray, List.set_cons_zero, List.set_cons_succ]
                refine wpAnyH_ready (rs := [10]) (by kernel_rfl) (by simp) ?_
                refine AllReadyH.cons (by simp only [List.getElem?_toArray]; rfl) (fun K hK => ?_) AllReadyH.nil
                refine wanted_pos (by kernel_rfl) ?_
                go_simp
                clear hHeld
                go_at_call 20
                (with_reducible refine (HFa.out _ bb).mono ?_)
                rintro e V3 ⟨rfl, bn⟩
                go_wp2_with fail
                refine hK.out _ _ ?_ (fun hHeld => ?_)
                · exact HS.out _ (bb.trans (bn.mono bb.size))
                clear hK K
                try conv => arg 8; simp only [Act.put, List.setIfInBounds_toArray, List.set_cons_zero, List.set_cons_succ]
                replace bb := bb.trans (bn.mono bb.size)
                clear bn
                refine wpAnyH_ready (rs := [13]) (by kernel_rfl) (by simp) ?_
                refine AllReadyH.cons (by simp only [List.getElem?_toArray]; rfl) (fun K hK => ?_) AllReadyH.nil
                refine wanted_pos (by kernel_rfl) ?_
                go_simp
                clear hHeld
                go_at_call 20
                (with_reducible refine (HFb.out _ bb).mono ?_)
                rintro e V4 ⟨rfl, bn⟩
                go_wp2_with fail
                refine hK.out _ _ ?_ (fun hHeld => ?_)
                · exact HS.out _ (bb.trans (bn.mono bb.size))
                clear hK K
                try conv => arg 8; simp only [Act.put, List.setIfInBounds_toArray, List.set_cons_zero, List.set_cons_succ]
                replace bb := bb.trans (bn.mono bb.size)
                clear bn
                by_cases hqq : q1 = q2
                · subst hqq
                  refine wpAnyH_take (i := 14) (v := ?_) (by simp only [List.getElem?_toArray]; rfl) (by kernel_rfl) (by kernel_rfl) (by kernel_rfl) (by exact fun _ _ _ h => h) (Or.inl ⟨by rfl, ?_⟩) (by assumption) ?_
                  rotate_left 1
                  · intro w hSw; (try dsimp only at hSw); go_simp; try with_reducible rfl
                  try conv => arg 8; simp only [Act.put, List.setIfInBounds_toArray, List.set_cons_zero, List.set_cons_succ]
                  refine wpAnyH_take (i := 15) (v := ?_) (by simp only [List.getElem?_toArray]; rfl) (by kernel_rfl) (by kernel_rfl) (by kernel_rfl) (by exact fun _ _ _ h => h) (Or.inl ⟨by rfl, ?_⟩) (by assumption) ?_
                  rotate_left 1
                  · intro w hSw; (try dsimp only at hSw); go_simp; try with_reducible rfl
                  try conv => arg 8; simp only [Act.put, List.setIfInBounds_toArray, List.set_cons_zero, List.set_cons_succ]
                  refine wpAnyH_take (i := 16) (v := ?_) (by simp only [List.getElem?_toArray]; rfl) (by kernel_rfl) (by kernel_rfl) (by kernel_rfl) (by exact fun _ _ _ h => h) (Or.inl ⟨by rfl, ?_⟩) (by assumption) ?_
                  rotate_left 1
                  · intro w hSw; (try dsimp only at hSw); go_simp; try with_reducible rfl
                  try conv => arg 8; simp only [Act.put, List.setIfInBounds_toArray, List.set_cons_zero, List.set_cons_succ]
                  refine wpAnyH_done (by kernel_rfl) ?_ _
                  clear HS
                  replace bwr := bwr.trans (bb.mono bwr.size)
                  clear hHeld a0 a1 a2 a3 a4 c0' c1' c2' c3' c4' HDO kA kB kF
                  go_wp2
                  go_ret
                  exact ⟨rfl, bwr⟩
                · have hb1 : ((q1 : Int) == (q2 : Int)) = false := by simp; omega
                  have hb2 : (q1 == q2) = false := by simp; omega
                  have hb3 : decide ((q1 : Int) = (q2 : Int)) = false := by simp; omega
                  have hb4 : decide (q1 = q2) = false := by simp; omega
                  refine wpAnyH_take (i := 14) (v := ?_) (by simp only [List.getElem?_toArray]; rfl) (by kernel_rfl) (by kernel_rfl) (by kernel_rfl) (by exact fun _ _ _ h => h) (Or.inl ⟨by rfl, ?_⟩) (by assumption) ?_
                  rotate_left 1
                  · intro w hSw; (try dsimp only at hSw); go_simp; try with_reducible rfl
                  try conv => arg 8; simp only [Act.put, List.setIfInBounds_toArray, List.set_cons_zero, List.set_cons_succ]
                  refine wpAnyH_take (i := 15) (v := ?_) (by simp only [List.getElem?_toArray]; rfl) (by kernel_rfl) (by kernel_rfl) (by kernel_rfl) (by exact fun _ _ _ h => h) (Or.inl ⟨by rfl, ?_⟩) (by assumption) ?_
                  rotate_left 1
                  · intro w hSw; (try dsimp only at hSw); go_simp; try with_reducible rfl
                  try conv => arg 8; simp only [Act.put, List.setIfInBounds_toArray, List.set_cons_zero, List.set_cons_succ]
                  refine wpAnyH_take (i := 16) (v := ?_) (by simp only [List.getElem?_toArray]; rfl) (by kernel_rfl) (by kernel_rfl) (by kernel_rfl) (by exact fun _ _ _ h => h) (Or.inl ⟨by rfl, ?_⟩) (by assumption) ?_
                  rotate_left 1
                  · intro w hSw; (try dsimp only at hSw); go_simp; try with_reducible rfl
                  try conv => arg 8; simp only [Act.put, List.setIfInBounds_toArray, List.set_cons_zero, List.set_cons_succ]
                  refine wpAnyH_done (by kernel_rfl) ?_ _
                  clear HS
                  replace bwr := bwr.trans (bb.mono bwr.size)
                  have kF := KF3.out.below bb KF3.out.lt
                  have kB := KB3.out.below bb KB3.out.lt
                  have v0 := box_cells kF 0 rfl
                  have v1 := box_cells kF 1 rfl
                  have v2 := box_cells kF 2 rfl
                  have v3 := box_cells kF 3 rfl
                  have v4 := box_cells kF 4 rfl
                  have v5 := box_cells kF 5 rfl
                  have v6 := box_cells kF 6 rfl
                  have v7 := box_cells kF 7 rfl
                  have v8 := box_cells kF 8 rfl
                  have c0'' := box_cells kB 0 rfl
                  have c1'' := box_cells kB 1 rfl
                  have c2'' := box_cells kB 2 rfl
                  have c3'' := box_cells kB 3 rfl
                  have c4'' := box_cells kB 4 rfl
                  have HDD := Lib.hid (HDO.out _ bb)
                  clear hHeld a0 a1 a2 a3 a4 c0' c1' c2' c3' c4' HDO
                  go_wp2_with fail
                  refine HDD.out.mono ?_
                  rintro e w12 ⟨bn, bz, rfl, hbz⟩
                  obtain rfl : bz = false := by
                    cases bz with
                    | false => rfl
                    | true => exact absurd (HND.out (hbz.1 rfl)) (by intro h; exact hqq h.2)
                  replace bwr := below_call bwr bn
                  go_wp2
                  go_ret
                  exact ⟨rfl, bwr⟩

              · have hpn : ¬ (p1 = p2) := hpp
                have hb1 : ((p1 : Int) == (p2 : Int)) = false := by simp; omega
                have hb2 : (p1 == p2) = false := by simp; omega
                have hb3 : decide ((p1 : Int) = (p2 : Int)) = false := by simp; omega
                have hb4 : decide (p1 = p2) = false := by simp; omega
                have HS := Lib.hid fun (W : World) (bW : Below wr.heap.size wr W) => (show W.cell? ⟨gA, 0, none⟩ = some (.slice v.ca v.cn v.cc) ∧ W.cell? ⟨gA, 1, none⟩ = some (.slice v.fa v.fn v.fc) ∧ W.cell? ⟨gA, 2, none⟩ = some (.slice v.ba v.bn v.bc) ∧ W.cell? ⟨gA, 3, none⟩ = some (.slice v.ea v.en v.ec) ∧ W.cell? ⟨gA, 4, none⟩ = some (.slice v.ga v.gn v.gc) ∧ W.cell? ⟨gB, 0, none⟩ = some (.slice u.ca u.cn u.cc) ∧ W.cell? ⟨gB, 1, none⟩ = some (.slice u.fa u.fn u.fc) ∧ W.cell? ⟨gB, 2, none⟩ = some (.slice u.ba u.bn u.bc) ∧ W.cell? ⟨gB, 3, none⟩ = some (.slice u.ea u.en u.ec) ∧ W.cell? ⟨gB, 4, none⟩ = some (.slice u.ga u.gn u.gc) from ⟨cell_call a0 bW, cell_call a1 bW, cell_call a2 bW, cell_call a3 bW, cell_call a4 bW, cell_call c0' bW, cell_call c1' bW, cell_call c2' bW, cell_call c3' bW, cell_call c4' bW⟩)
                have bb := Below.refl wr.heap.size wr
                refine wp_region_held_drew (S := fun w' => w'.cell? ⟨gA, 0, none⟩ = some (.slice v.ca v.cn v.cc) ∧ w'.cell? ⟨gA, 1, none⟩ = some (.slice v.fa v.fn v.fc) ∧ w'.cell? ⟨gA, 2, none⟩ = some (.slice v.ba v.bn v.bc) ∧ w'.cell? ⟨gA, 3, none⟩ = some (.slice v.ea v.en v.ec) ∧ w'.cell? ⟨gA, 4, none⟩ = some (.slice v.ga v.gn v.gc) ∧ w'.cell? ⟨gB, 0, none⟩ = some (.slice u.ca u.cn u.cc) ∧ w'.cell? ⟨gB, 1, none⟩ = some (.slice u.fa u.fn u.fc) ∧ w'.cell? ⟨gB, 2, none⟩ = some (.slice u.ba u.bn u.bc) ∧ w'.cell? ⟨gB, 3, none⟩ = some (.slice u.ea u.en u.ec) ∧ w'.cell? ⟨gB, 4, none⟩ = some (.slice u.ga u.gn u.gc)) (by kernel_rfl) ?_ (fun hHeld => ?_)
                · exact HS.out _ (below_drewN bb 1)
                replace bb := below_drewN bb 1
                change Below _ _ wr.drew at bb
                generalize hw0 : wr.drew = W0 at hHeld bb ⊢
                clear hw0
                refine wpAnyH_take (i := 0) (v := ?_) (by simp only [List.getElem?_toArray]; rfl) (by kernel_rfl) (by kernel_rfl) (by kernel_rfl) (by exact fun _ _ _ h => h) (Or.inl ⟨by rfl, ?_⟩) (by assumption) ?_
                rotate_left 1
                · intro w hSw; (try dsimp only at hSw); go_simp; try with_reducible rfl
                try conv => arg 8; simp only [Act.put, List.setIfInBounds_toArray, List.set_cons_zero, List.set_cons_succ]
                refine wpAnyH_take (i := 1) (v := ?_) (by simp only [List.getElem?_toArray]; rfl) (by kernel_rfl) (by kernel_rfl) (by kernel_rfl) (by exact fun _ _ _ h => h) (Or.inl ⟨by rfl, ?_⟩) (by assumption) ?_
                rotate_left 1
                · intro w hSw; (try dsimp only at hSw); go_simp; try with_reducible rfl
                try conv => arg 8; simp only [Act.put, List.setIfInBounds_toArray, List.set_cons_zero, List.set_cons_succ]
                refine wpAnyH_take (i := 3) (v := ?_) (by simp only [List.getElem?_toArray]; rfl) (by kernel_rfl) (by kernel_rfl) (by kernel_rfl) (by exact fun _ _ _ h => h) (Or.inl ⟨by rfl, ?_⟩) (by assumption) ?_
                rotate_left 1
                · intro w hSw; (try dsimp only at hSw); go_simp; try with_reducible rfl
                try conv => arg 8; simp only [Act.put, List.setIfInBounds_toArray, List.set_cons_zero, List.set_cons_succ]
                refine wpAnyH_take (i := 4) (v := ?_) (by simp only [List.getElem?_toArray]; rfl) (by kernel_rfl) (by kernel_rfl) (by kernel_rfl) (by exact fun _ _ _ h => h) (Or.inl ⟨by rfl, ?_⟩) (by assumption) ?_
                rotate_left 1
                · intro w hSw; (try dsimp only at hSw); go_simp; try with_reducible rfl
                try conv => arg 8; simp only [Act.put, List.setIfInBounds_toArray, List.set_cons_zero, List.set_cons_succ]
                refine wpAnyH_ready (rs := [2]) (by kernel_rfl) (by simp) ?_
                refine AllReadyH.cons (by simp only [List.getElem?_toArray]; rfl) (fun K hK => ?_) AllReadyH.nil
                refine wanted_pos (by kernel_rfl) ?_
                go_simp
                clear hHeld
                go_at_call 19
                (with_reducible refine (HBa.out _ bb).mono ?_)
                rintro e V1 ⟨rfl, bn⟩
                go_wp2_with fail
                refine hK.out _ _ ?_ (fun hHeld => ?_)
                · exact HS.out _ (bb.trans (bn.mono bb.size))
                clear hK K
                try conv => arg 8; simp only [Act.put, List.setIfInBounds_toArray, List.set_cons_zero, List.set_cons_succ]
                replace bb := bb.trans (bn.mono bb.size)
                clear bn
                refine wpAnyH_ready (rs := [5]) (by kernel_rfl) (by simp) ?_
                refine AllReadyH.cons (by simp only [List.getElem?_toArray]; rfl) (fun K hK => ?_) AllReadyH.nil
                refine wanted_pos (by kernel_rfl) ?_
                go_simp
                clear hHeld
                go_at_call 19
                (with_reducible refine (HBb.out _ bb).mono ?_)
                rintro e V2 ⟨rfl, bn⟩
                go_wp2_with fail
                refine hK.out _ _ ?_ (fun hHeld => ?_)
                · exact HS.out _ (bb.trans (bn.mono bb.size))
                clear hK K
                try conv => arg 8; simp only [Act.put, List.setIfInBounds_toArray, List.set_cons_zero, List.set_cons_succ]
                replace bb := bb.trans (bn.mono bb.size)
                clear bn
                refine wpAnyH_take (i := 6) (v := ?_) (by simp only [List.getElem?_toArray]; rfl) (by kernel_rfl) (by kernel_rfl) (by kernel_rfl) (by exact fun _ _ _ h => h) (Or.inl ⟨by rfl, ?_⟩) (by assumption) ?_
                rotate_left 1
                · intro w hSw; (try dsimp only at hSw); go_simp; try with_reducible rfl
                try conv => arg 8; simp only [Act.put, List.setIfInBounds_toArray, List.set_cons_zero, List.set_cons_succ]
                refine wpAnyH_take (i := 7) (v := ?_) (by simp only [List.getElem?_toArray]; rfl) (by kernel_rfl) (by kernel_rfl) (by kernel_rfl) (by exact fun _ _ _ h => h) (Or.inl ⟨by rfl, ?_⟩) (by assumption) ?_
                rotate_left 1
                · intro w hSw; (try dsimp only at hSw); go_simp; try with_reducible rfl
                try conv => arg 8; simp only [Act.put, List.setIfInBounds_toArray, List.set_cons_zero, List.set_cons_succ]
                refine wpAnyH_take (i := 8) (v := undef) (by simp only [List.getElem?_toArray]; rfl) (by kernel_rfl) (by kernel_rfl) (by kernel_rfl) (by exact fun _ _ _ h => h) (Or.inr ⟨by rfl, rfl⟩) (by assumption) ?_
                try conv => arg 8; simp only [Act.put, List.setIfInBounds_toArray, List.set_cons_zero, List.set_cons_succ]
                refine wpAnyH_take (i := 9) (v := undef) (by simp only [List.getElem?_toArray]; rfl) (by kernel_rfl) (by kernel_rfl) (by kernel_rfl) (by exact fun _ _ _ h => h) (Or.inr ⟨by rfl, rfl⟩) (by assumption) ?_
                try conv => arg 8; simp only [Act.put, List.setIfInBounds_toArray, List.set_cons_zero, List.set_cons_succ]
                refine wpAnyH_take (i := 10) (v := undef) (by simp only [List.getElem?_toArray]; rfl) (by kernel_rfl) (by kernel_rfl) (by kernel_rfl) (by exact fun _ _ _ h => h) (Or.inr ⟨by rfl, rfl⟩) (by assumption) ?_
                try conv => arg 8; simp only [Act.put, List.setIfInBounds_toArray, List.set_cons_zero, List.set_cons_succ]
                refine wpAnyH_take (i := 11) (v := undef) (by simp only [List.getElem?_toArray]; rfl) (by kernel_rfl) (by kernel_rfl) (by kernel_rfl) (by exact fun _ _ _ h => h) (Or.inr ⟨by rfl, rfl⟩) (by assumption) ?_
                try conv => arg 8; simp only [Act.put, List.setIfInBounds_toArray, List.set_cons_zero, List.set_cons_succ]
                refine wpAnyH_take (i := 12) (v := undef) (by simp only [List.getElem?_toArray]; rfl) (by kernel_rfl) (by kernel_rfl) (by kernel_rfl) (by exact fun _ _ _ h => h) (Or.inr ⟨by rfl, rfl⟩) (by assumption) ?_
                try conv => arg 8; simp only [Act.put, List.setIfInBounds_toArray, List.set_cons_zero, List.set_cons_succ]
                refine wpAnyH_take (i := 13) (v := undef) (by simp only [List.getElem?_toArray]; rfl) (by kernel_rfl) (by kernel_rfl) (by kernel_rfl) (by exact fun _ _ _ h => h) (Or.inr ⟨by rfl, rfl⟩) (by assumption) ?_
                try conv => arg 8; simp only [Act.put, List.setIfInBounds_toArray, List.set_cons_zero, List.set_cons_succ]
                refine wpAnyH_take (i := 14) (v := undef) (by simp only [List.getElem?_toArray]; rfl) (by kernel_rfl) (by kernel_rfl) (by kernel_rfl) (by exact fun _ _ _ h => h) (Or.inr ⟨by rfl, rfl⟩) (by assumption) ?_
                try conv => arg 8; simp only [Act.put, List.setIfInBounds_toArray, List.set_cons_zero, List.set_cons_succ]
                refine wpAnyH_take (i := 15) (v := ?_) (by simp only [List.getElem?_toArray]; rfl) (by kernel_rfl) (by kernel_rfl) (by kernel_rfl) (by exact fun _ _ _ h => h) (Or.inl ⟨by rfl, ?_⟩) (by assumption) ?_
                rotate_left 1
                · intro w hSw; (try dsimp only at hSw); go_simp; try with_reducible rfl
                try conv => arg 8; simp only [Act.put, List.setIfInBounds_toArray, List.set_cons_zero, List.set_cons_succ]
                refine wpAnyH_take (i := 16) (v := ?_) (by simp only [List.getElem?_toArray]; rfl) (by kernel_rfl) (by kernel_rfl) (by kernel_rfl) (by exact fun _ _ _ h => h) (Or.inl ⟨by rfl, ?_⟩) (by assumption) ?_
                rotate_left 1
                · intro w hSw; (try dsimp only at hSw); go_simp; try with_reducible rfl
                try conv => arg 8; simp only [Act.put, List.setIfInBounds_toArray, List.set_cons_zero, List.set_cons_succ]
                refine wpAnyH_done (by kernel_rfl) ?_ _
                clear HS
                replace bwr := bwr.trans (bb.mono bwr.size)
                have kF := KF3.out.below bb KF3.out.lt
                have kB := KB3.out.below bb KB3.out.lt
                have v0 := box_cells kF 0 rfl
                have v1 := box_cells kF 1 rfl
                have v2 := box_cells kF 2 rfl
                have v3 := box_cells kF 3 rfl
                have v4 := box_cells kF 4 rfl
                have v5 := box_cells kF 5 rfl
                have v6 := box_cells kF 6 rfl
                have v7 := box_cells kF 7 rfl
                have v8 := box_cells kF 8 rfl
                have c0'' := box_cells kB 0 rfl
                have c1'' := box_cells kB 1 rfl
                have c2'' := box_cells kB 2 rfl
                have c3'' := box_cells kB 3 rfl
                have c4'' := box_cells kB 4 rfl
                have HDD := Lib.hid (HDO.out _ bb)
                clear hHeld a0 a1 a2 a3 a4 c0' c1' c2' c3' c4' HDO
                go_wp2_with fail
                refine HDD.out.mono ?_
                rintro e w12 ⟨bn, bz, rfl, hbz⟩
                obtain rfl : bz = false := by
                  cases bz with
                  | false => rfl
                  | true => exact absurd (HND.out (hbz.1 rfl)) (by intro h; exact hpn h.1)
                replace bwr := below_call bwr bn
                go_wp2
                go_ret
                exact ⟨rfl, bwr⟩




      · have inn : ¬ (i : Int) < (n1 : Int) := by omega
        have htk : l1.take i = l1.take 10 := by rw [List.take_of_length_le (show l1.length ≤ 10 by rw [L1.out]; omega), List.take_of_length_le (show l1.length ≤ i by rw [L1.out]; omega)]
        rw [htk] at htw
        obtain ⟨mb, hmb⟩ : ∃ m, i = m := ⟨_, rfl⟩
        obtain ⟨Ab, hAb⟩ : ∃ m, Ax = m := ⟨_, rfl⟩
        obtain ⟨db, hdb⟩ : ∃ m, d = m := ⟨_, rfl⟩
        rw [hmb, hAb, hdb] at htw
        have htw : Two wB wr Ab mb db (modG gn (l1.take 10)) Af 0 0 (modG gn (l2.take 0)) := htw
        go_upto_region 14 with fail
        try rw [hmb]
        try rw [hAb]
        try rw [hdb]
        clear hmb hAb hdb htk yx hi10 hin hlt inn
        obtain ⟨w9, hw9⟩ : ∃ w9 : World, w9 = wr := ⟨_, rfl⟩
        rw [← hw9] at htw
        try rw [← hw9]
        clear hw9
        go_loopw [9, 11] (fun bv iv wr => ∃ (i : Nat) (Ax : Option Addr) (d : Nat), i ≤ 10 ∧ i ≤ n2 ∧ iv = .int .i64 i ∧ bv = .slice Ax i d ∧ Two wB wr Ab mb db (modG gn (l1.take 10)) Ax i d (modG gn (l2.take i))) (fun _ iv _ => n2 - (intOf iv).toNat)
        case atStart => exact ⟨0, _, _, by omega, by omega, rfl, rfl, htw⟩
        case round =>
          clear htw
          obtain ⟨i, Ax, d, hi10, hin, rfl, rfl, htw⟩ := hrel
          have yx := box_cells (KX.out.below htw.bl KX.out.lt) 7 rfl
          by_cases hlt : i < n2
          · have inn : (i : Int) < (n2 : Int) := by omega
            by_cases hlt10 : i < 10
            · have i10 : (i : Int) < 10 := by omega
              have iz : (0 : Int) ≤ (i : Int) := by omega
              obtain ⟨x, hx⟩ := at_some l2 i (by rw [L2.out]; omega)
              obtain ⟨ba, oa, rfl, hba, hcc⟩ := (HR2.out w (Below.refl _ _)).pos (show 0 < n2 by omega)
              obtain ⟨cs, rfl, hcc2⟩ := hcc i x hx
              have bwr := below_trans2 BB.out htw.bl
              have xe := (bwr.cell (p := ⟨ba, oa + i * 1 + 0, none⟩) hba).trans (hcc2 0 _ rfl)
              rw [Nat.mul_one, Nat.add_zero] at xe
              change ba < w.heap.size at hba
              have HMG := Lib.hid (modG_succ gn hx)
              obtain ⟨z, hz⟩ : ∃ z : Int, x % 65536 % (gn : Int) = z := ⟨_, rfl⟩
              have e1 := and65535 x
              obtain ⟨z0, hz0⟩ : ∃ z0 : Nat, x % 65536 = (z0 : Int) := ⟨(x % 65536).toNat, by omega⟩
              rw [hz0] at e1 hz
              have e2 : (z0 : Int).tmod (gn : Int) = z := by rw [Int.tmod_eq_emod_of_nonneg (by omega)]; exact hz
              rw [hz0, hz] at HMG
              have ez2 : ¬ (gn = 0) := by omega
              have yf := (box_cells (KF.out.below htw.bl KF.out.lt) 1 rfl).trans YF.out
              have HSS := Lib.hid htw
              clear hcc hcc2 hx htw hz hz0 bwr
              go_upto_region 16 with fail
              have HS := Lib.hid fun (W : World) (bW : Below wr.heap.size wr W) => (show W.cell? ⟨w.heap.size, 7, none⟩ = some (.slice (some ⟨ba, oa, none⟩) n2 c2) ∧ W.cell? ⟨ba, oa + i, none⟩ = some (.int .i64 x) ∧ W.cell? ⟨gF, 1, none⟩ = some (.slice f.ga gn f.gc) from ⟨cell_call yx bW, cell_call xe bW, cell_call yf bW⟩)
              have bb := Below.refl wr.heap.size wr
              refine wp_region_held_drew (S := fun w' => w'.cell? ⟨w.heap.size, 7, none⟩ = some (.slice (some ⟨ba, oa, none⟩) n2 c2) ∧ w'.cell? ⟨ba, oa + i, none⟩ = some (.int .i64 x) ∧ w'.cell? ⟨gF, 1, none⟩ = some (.slice f.ga gn f.gc)) (by kernel_rfl) ?_ (fun hHeld => ?_)
              · exact HS.out _ (below_drewN bb 1)
              replace bb := below_drewN bb 1
              change Below _ _ wr.drew at bb
              generalize hw0 : wr.drew = W0 at hHeld bb ⊢
              clear hw0
              refine wpAnyH_take (i := 0) (v := ?_) (by simp only [List.getElem?_toArray]; rfl) (by kernel_rfl) (by kernel_rfl) (by kernel_rfl) (by exact fun _ _ _ h => h) (Or.inl ⟨by rfl, ?_⟩) (by assumption) ?_
              rotate_left 1
              · intro w hSw; (try dsimp only at hSw); go_simp; try with_reducible rfl
              try conv => arg 8; simp only [Act.put, List.setIfInBounds_toArray, List.set_cons_zero, List.set_cons_succ]
              refine wpAnyH_take (i := 1) (v := ?_) (by simp only [List.getElem?_toArray]; rfl) (by kernel_rfl) (by kernel_rfl) (by kernel_rfl) (by exact fun _ _ _ h => h) (Or.inl ⟨by rfl, ?_⟩) (by assumption) ?_
              rotate_left 1
              · intro w hSw; (try dsimp only at hSw); go_simp; try with_reducible rfl
              try conv => arg 8; simp only [Act.put, List.setIfInBounds_toArray, List.set_cons_zero, List.set_cons_succ]
              refine wpAnyH_take (i := 2) (v := ?_) (by simp only [List.getElem?_toArray]; rfl) (by kernel_rfl) (by kernel_rfl) (by kernel_rfl) (by exact fun _ _ _ h => h) (Or.inl ⟨by rfl, ?_⟩) (by assumption) ?_
              rotate_left 1
              · intro w hSw; (try dsimp only at hSw); go_simp; try with_reducible rfl
              try conv => arg 8; simp only [Act.put, List.setIfInBounds_toArray, List.set_cons_zero, List.set_cons_succ]
              refine wpAnyH_take (i := 3) (v := ?_) (by simp only [List.getElem?_toArray]; rfl) (by kernel_rfl) (by kernel_rfl) (by kernel_rfl) (by exact fun _ _ _ h => h) (Or.inl ⟨by rfl, ?_⟩) (by assumption) ?_
              rotate_left 1
              · intro w hSw; (try dsimp only at hSw); go_simp; try with_reducible rfl
              try conv => arg 8; simp only [Act.put, List.setIfInBounds_toArray, List.set_cons_zero, List.set_cons_succ]
              refine wpAnyH_take (i := 4) (v := ?_) (by simp only [List.getElem?_toArray]; rfl) (by kernel_rfl) (by kernel_rfl) (by kernel_rfl) (by exact fun _ _ _ h => h) (Or.inl ⟨by rfl, ?_⟩) (by assumption) ?_
              rotate_left 1
              · intro w hSw; (try dsimp only at hSw); go_simp; try with_reducible rfl
              try conv => arg 8; simp only [Act.put, List.setIfInBounds_toArray, List.set_cons_zero, List.set_cons_succ]
              refine wpAnyH_take (i := 5) (v := ?_) (by simp only [List.getElem?_toArray]; rfl) (by kernel_rfl) (by kernel_rfl) (by kernel_rfl) (by exact fun _ _ _ h => h) (Or.inl ⟨by rfl, ?_⟩) (by assumption) ?_
              rotate_left 1
              · intro w hSw; (try dsimp only at hSw); go_simp; try with_reducible rfl
              try conv => arg 8; simp only [Act.put, List.setIfInBounds_toArray, List.set_cons_zero, List.set_cons_succ]
              refine wpAnyH_take (i := 6) (v := ?_) (by simp only [List.getElem?_toArray]; rfl) (by kernel_rfl) (by kernel_rfl) (by kernel_rfl) (by exact fun _ _ _ h => h) (Or.inl ⟨by rfl, ?_⟩) (by assumption) ?_
              rotate_left 1
              · intro w hSw; (try dsimp only at hSw); go_simp; try with_reducible rfl
              try conv => arg 8; simp only [Act.put, List.setIfInBounds_toArray, List.set_cons_zero, List.set_cons_succ]
              refine wpAnyH_take (i := 7) (v := ?_) (by simp only [List.getElem?_toArray]; rfl) (by kernel_rfl) (by kernel_rfl) (by kernel_rfl) (by exact fun _ _ _ h => h) (Or.inl ⟨by rfl, ?_⟩) (by assumption) ?_
              rotate_left 1
              · intro w hSw; (try dsimp only at hSw); go_simp; try with_reducible rfl
              try conv => arg 8; simp only [Act.put, List.setIfInBounds_toArray, List.set_cons_zero, List.set_cons_succ]
              refine wpAnyH_take (i := 8) (v := ?_) (by simp only [List.getElem?_toArray]; rfl) (by kernel_rfl) (by kernel_rfl) (by kernel_rfl) (by exact fun _ _ _ h => h) (Or.inl ⟨by rfl, ?_⟩) (by assumption) ?_
              rotate_left 1
              · intro w hSw; (try dsimp only at hSw); go_simp; try with_reducible rfl
              try conv => arg 8; simp only [Act.put, List.setIfInBounds_toArray, List.set_cons_zero, List.set_cons_succ]
              refine wpAnyH_take (i := 9) (v := ?_) (by simp only [List.getElem?_toArray]; rfl) (by kernel_rfl) (by kernel_rfl) (by kernel_rfl) (by exact fun _ _ _ h => h) (Or.inl ⟨by rfl, ?_⟩) (by assumption) ?_
              rotate_left 1
              · intro w hSw; (try dsimp only at hSw); go_simp; try with_reducible rfl
              try conv => arg 8; simp only [Act.put, List.setIfInBounds_toArray, List.set_cons_zero, List.set_cons_succ]
              refine wpAnyH_take (i := 10) (v := ?_) (by simp only [List.getElem?_toArray]; rfl) (by kernel_rfl) (by kernel_rfl) (by kernel_rfl) (by exact fun _ _ _ h => h) (Or.inl ⟨by rfl, ?_⟩) (by assumption) ?_
              rotate_left 1
              · intro w hSw; (try dsimp only at hSw); go_simp; try with_reducible rfl
              try conv => arg 8; simp only [Act.put, List.setIfInBounds_toArray, List.set_cons_zero, List.set_cons_succ]
              refine wpAnyH_ready (rs := [11]) (by kernel_rfl) (by simp) ?_
              refine AllReadyH.cons (by simp only [List.getElem?_toArray]; rfl) (fun K hK => ?_) AllReadyH.nil
              refine wanted_pos (by kernel_rfl) ?_
              go_simp
              clear hHeld
              refine hK.out _ _ ?_ (fun hHeld => ?_)
              · exact HS.out _ (below_lit _ _ bb _)
              clear hK K
              try conv => arg 8; simp only [Act.put, List.setIfInBounds_toArray, List.set_cons_zero, List.set_cons_succ]
              refine wpAnyH_ready (rs := [12]) (by kernel_rfl) (by simp) ?_
              refine AllReadyH.cons (by simp only [List.getElem?_toArray]; rfl) (fun K hK => ?_) AllReadyH.nil
              clear hHeld
              have how := (HSS.out.o1.call bb).alloc (.cells #[.int .i64 z] 3)
              have hnw := news_new W0 [.int .i64 z] 3
              have hs2 : wB.heap.size ≤ (W0.alloc (.cells #[.int .i64 z] 3)).heap.size := by rw [World.size_alloc]; have h1 := HSS.out.bl.size; have h2 := bb.size; omega
              refine appStep elt_int (by kernel_rfl) _ _ rfl (W0.alloc (.cells #[.int .i64 z] 3)) wB.heap.size _ _ _ (ic (modG gn (l2.take i))) _ 1 1 [.int .i64 z] (by rfl) (by rfl) how rfl hnw (by simp [Value.oneCell']) (by omega) hs2 ?_
              intro A' d' W4 ho4 hg4 hb4 hat4
              have hp := HSS.out.push1 bb ho4 hg4 hb4 hat4
              have hlo : ∀ b, b < wB.heap.size → W4.heap[b]? = wr.heap[b]? := fun b hb => (hp.bl.block b hb).trans (HSS.out.bl.block b hb).symm
              refine hK.out _ _ ?_ (fun hHeld => ?_)
              · exact ⟨(World.cell?_of_block (a := ⟨w.heap.size, 7, none⟩) (hlo _ KX.out.lt)).trans yx, (World.cell?_of_block (a := ⟨ba, oa + i, none⟩) (hlo ba (by have := KX.out.lt; omega))).trans xe, (World.cell?_of_block (a := ⟨gF, 1, none⟩) (hlo _ KF.out.lt)).trans yf⟩
              clear hK K
              try conv => arg 8; simp only [Act.put, List.setIfInBounds_toArray, List.set_cons_zero, List.set_cons_succ]
              refine wpAnyH_take (i := 13) (v := ?_) (by simp only [List.getElem?_toArray]; rfl) (by kernel_rfl) (by kernel_rfl) (by kernel_rfl) (by exact fun _ _ _ h => h) (Or.inl ⟨by rfl, ?_⟩) (by assumption) ?_
              rotate_left 1
              · intro w hSw; (try dsimp only at hSw); go_simp; try with_reducible rfl
              try conv => arg 8; simp only [Act.put, List.setIfInBounds_toArray, List.set_cons_zero, List.set_cons_succ]
              refine wpAnyH_done (by kernel_rfl) ?_ _
              clear hHeld how hnw hlo
              go_wp2_with fail
              go_roundw
              case rel => first | exact ⟨i + 1, A', d', by omega, by omega, by go_num, rfl, by rw [HMG.out]; exact hp⟩ | exact ⟨i + 1, by omega, by omega, by omega, A', d', rfl, by rw [HMG.out]; exact hp⟩
              case measure => simp [intOf]; omega

            · have i10 : ¬ (i : Int) < 10 := by omega
              have htk : l2.take i = l2.take 10 := by rw [show i = 10 by omega]
              rw [htk] at htw
              have hy0 := modG_ok hgn0 (l1.take 10)
              have hy1 := modG_ok hgn0 (l2.take 10)
              obtain ⟨y0, hY0⟩ : ∃ y, modG gn (l1.take 10) = y := ⟨_, rfl⟩
              obtain ⟨y1, hY1⟩ : ∃ y, modG gn (l2.take 10) = y := ⟨_, rfl⟩
              rw [hY0] at hy0 htw
              rw [hY1] at hy1 htw
              have s0 := (built_says HAU.out y0 hy0).2
              have s1 := (built_says HAU.out y1 hy1).1
              have HND := Lib.hid (show DoesF (fontF gn (madeR (rs.take 3))) 0 b → backA a y0 = backA b y0 ∧ foreA a y1 = foreA b y1 from fun h => ⟨s0.trans (does_says h y0 hy0).2.symm, s1.trans (does_says h y1 hy1).1.symm⟩)
              have hl0 : mb ≤ 9223372036854775807 := by have := htw.o0.cap; omega
              have hl1 : i ≤ 9223372036854775807 := by have := htw.o1.cap; omega
              have bwr := below_trans2 BB.out htw.bl
              have kA := KA.out.below htw.bl KA.out.lt
              have kB := KB.out.below htw.bl KB.out.lt
              have kF := KF.out.below htw.bl KF.out.lt
              have hFw := HFB.out.call htw.bl
              have hAw := HAB.out.call htw.bl
              have hBw := HBB.out.call htw.bl
              have r0 := htw.o0.rd
              have r1 := htw.o1.rd
              have HBa := Lib.hid fun (W : World) (bW : Below wr.heap.size wr W) => Back_c v a Ab mb db y0 W (hAw.call bW) (r0.call bW) hl0
              have HBb := Lib.hid fun (W : World) (bW : Below wr.heap.size wr W) => Back_c u b Ab mb db y0 W (hBw.call bW) (r0.call bW) hl0
              have HFa := Lib.hid fun (W : World) (bW : Below wr.heap.size wr W) => Fore_c v a Ax i d y1 W (hAw.call bW) (r1.call bW) hl1
              have HFb := Lib.hid fun (W : World) (bW : Below wr.heap.size wr W) => Fore_c u b Ax i d y1 W (hBw.call bW) (r1.call bW) hl1
              have HDO := Lib.hid fun (W : World) (bW : Below wr.heap.size wr W) => does_c f (fontF gn (madeR (rs.take 3))) 0 u b W (hFw.call bW) HSM.out (hBw.call bW) (by omega) (by omega)
              obtain ⟨p1, hp1⟩ : ∃ x, backA a y0 = x := ⟨_, rfl⟩
              obtain ⟨p2, hp2⟩ : ∃ x, backA b y0 = x := ⟨_, rfl⟩
              obtain ⟨q1, hq1⟩ : ∃ x, foreA a y1 = x := ⟨_, rfl⟩
              obtain ⟨q2, hq2⟩ : ∃ x, foreA b y1 = x := ⟨_, rfl⟩
              rw [hp1] at HBa
              rw [hp2] at HBb
              rw [hq1] at HFa
              rw [hq2] at HFb
              rw [hp1, hp2, hq1, hq2] at HND
              unfold AV.cells at HBa HBb HFa HFb HDO
              unfold FV.cells at HDO
              clear s0 s1 hy0 hy1 hY0 hY1 htk htw r0 r1 hAw hBw hFw hp1 hp2 hq1 hq2
              have a0 := box_cells kA 0 rfl
              have a1 := box_cells kA 1 rfl
              have a2 := box_cells kA 2 rfl
              have a3 := box_cells kA 3 rfl
              have a4 := box_cells kA 4 rfl
              have c0' := box_cells kB 0 rfl
              have c1' := box_cells kB 1 rfl
              have c2' := box_cells kB 2 rfl
              have c3' := box_cells kB 3 rfl
              have c4' := box_cells kB 4 rfl
              have v0 := box_cells kF 0 rfl
              have v1 := box_cells kF 1 rfl
              have v2 := box_cells kF 2 rfl
              have v3 := box_cells kF 3 rfl
              have v4 := box_cells kF 4 rfl
              have v5 := box_cells kF 5 rfl
              have v6 := box_cells kF 6 rfl
              have v7 := box_cells kF 7 rfl
              have v8 := box_cells kF 8 rfl
              go_upto_region 17 with fail
              clear yx hi10 hin hlt inn i10 hlt10
              have KF3 := Lib.hid kF; have KB3 := Lib.hid kB
              clear v0 v1 v2 v3 v4 v5 v6 v7 v8
              by_cases hpp : p1 = p2
              · have HPP := Lib.hid hpp
                rw [← hpp] at HBb
                clear hpp
                have HS := Lib.hid fun (W : World) (bW : Below wr.heap.size wr W) => (show W.cell? ⟨gA, 0, none⟩ = some (.slice v.ca v.cn v.cc) ∧ W.cell? ⟨gA, 1, none⟩ = some (.slice v.fa v.fn v.fc) ∧ W.cell? ⟨gA, 2, none⟩ = some (.slice v.ba v.bn v.bc) ∧ W.cell? ⟨gA, 3, none⟩ = some (.slice v.ea v.en v.ec) ∧ W.cell? ⟨gA, 4, none⟩ = some (.slice v.ga v.gn v.gc) ∧ W.cell? ⟨gB, 0, none⟩ = some (.slice u.ca u.cn u.cc) ∧ W.cell? ⟨gB, 1, none⟩ = some (.slice u.fa u.fn u.fc) ∧ W.cell? ⟨gB, 2, none⟩ = some (.slice u.ba u.bn u.bc) ∧ W.cell? ⟨gB, 3, none⟩ = some (.slice u.ea u.en u.ec) ∧ W.cell? ⟨gB, 4, none⟩ = some (.slice u.ga u.gn u.gc) from ⟨cell_call a0 bW, cell_call a1 bW, cell_call a2 bW, cell_call a3 bW, cell_call a4 bW, cell_call c0' bW, cell_call c1' bW, cell_call c2' bW, cell_call c3' bW, cell_call c4' bW⟩)
                have bb := Below.refl wr.heap.size wr
                refine wp_region_held_drew (S := fun w' => w'.cell? ⟨gA, 0, none⟩ = some (.slice v.ca v.cn v.cc) ∧ w'.cell? ⟨gA, 1, none⟩ = some (.slice v.fa v.fn v.fc) ∧ w'.cell? ⟨gA, 2, none⟩ = some (.slice v.ba v.bn v.bc) ∧ w'.cell? ⟨gA, 3, none⟩ = some (.slice v.ea v.en v.ec) ∧ w'.cell? ⟨gA, 4, none⟩ = some (.slice v.ga v.gn v.gc) ∧ w'.cell? ⟨gB, 0, none⟩ = some (.slice u.ca u.cn u.cc) ∧ w'.cell? ⟨gB, 1, none⟩ = some (.slice u.fa u.fn u.fc) ∧ w'.cell? ⟨gB, 2, none⟩ = some (.slice u.ba u.bn u.bc) ∧ w'.cell? ⟨gB, 3, none⟩ = some (.slice u.ea u.en u.ec) ∧ w'.cell? ⟨gB, 4, none⟩ = some (.slice u.ga u.gn u.gc)) (by kernel_rfl) ?_ (fun hHeld => ?_)
                · exact HS.out _ (below_drewN bb 1)
                replace bb := below_drewN bb 1
                change Below _ _ wr.drew at bb
                generalize hw0 : wr.drew = W0 at hHeld bb ⊢
                clear hw0
                refine wpAnyH_take (i := 0) (v := ?_) (by simp only [List.getElem?_toArray]; rfl) (by kernel_rfl) (by kernel_rfl) (by kernel_rfl) (by exact fun _ _ _ h => h) (Or.inl ⟨by rfl, ?_⟩) (by assumption) ?_
                rotate_left 1
                · intro w hSw; (try dsimp only at hSw); go_simp; try with_reducible rfl
                try conv => arg 8; simp only [Act.put, List.setIfInBounds_toArray, List.set_cons_zero, List.set_cons_succ]
                refine wpAnyH_take (i := 1) (v := ?_) (by simp only [List.getElem?_toArray]; rfl) (by kernel_rfl) (by kernel_rfl) (by kernel_rfl) (by exact fun _ _ _ h => h) (Or.inl ⟨by rfl, ?_⟩) (by assumption) ?_
                rotate_left 1
                · intro w hSw; (try dsimp only at hSw); go_simp; try with_reducible rfl
                try conv => arg 8; simp only [Act.put, List.setIfInBounds_toArray, List.set_cons_zero, List.set_cons_succ]
                refine wpAnyH_take (i := 3) (v := ?_) (by simp only [List.getElem?_toArray]; rfl) (by kernel_rfl) (by kernel_rfl) (by kernel_rfl) (by exact fun _ _ _ h => h) (Or.inl ⟨by rfl, ?_⟩) (by assumption) ?_
                rotate_left 1
                · intro w hSw; (try dsimp only at hSw); go_simp; try with_reducible rfl
                try conv => arg 8; simp only [Act.put, List.setIfInBounds_toArray, List.set_cons_zero, List.set_cons_succ]
                refine wpAnyH_take (i := 4) (v := ?_) (by simp only [List.getElem?_toArray]; rfl) (by kernel_rfl) (by kernel_rfl) (by kernel_rfl) (by exact fun _ _ _ h => h) (Or.inl ⟨by rfl, ?_⟩) (by assumption) ?_
                rotate_left 1
                · intro w hSw; (try dsimp only at hSw); go_simp; try with_reducible rfl
                try conv => arg 8; simp only [Act.put, List.setIfInBounds_toArray, List.set_cons_zero, List.set_cons_succ]
                refine wpAnyH_ready (rs := [2]) (by kernel_rfl) (by simp) ?_
                refine AllReadyH.cons (by simp only [List.getElem?_toArray]; rfl) (fun K hK => ?_) AllReadyH.nil
                refine wanted_pos (by kernel_rfl) ?_
                go_simp
                clear hHeld
                go_at_call 19
                (with_reducible refine (HBa.out _ bb).mono ?_)
                rintro e V1 ⟨rfl, bn⟩
                go_wp2_with fail
                refine hK.out _ _ ?_ (fun hHeld => ?_)
                · exact HS.out _ (bb.trans (bn.mono bb.size))
                clear hK K
                try conv => arg 8; simp only [Act.put, List.setIfInBounds_toArray, List.set_cons_zero, List.set_cons_succ]
                replace bb := bb.trans (bn.mono bb.size)
                clear bn
                refine wpAnyH_ready (rs := [5]) (by kernel_rfl) (by simp) ?_
                refine AllReadyH.cons (by simp only [List.getElem?_toArray]; rfl) (fun K hK => ?_) AllReadyH.nil
                refine wanted_pos (by kernel_rfl) ?_
                go_simp
                clear hHeld
                go_at_call 19
                (with_reducible refine (HBb.out _ bb).mono ?_)
                rintro e V2 ⟨rfl, bn⟩
                go_wp2_with fail
                refine hK.out _ _ ?_ (fun hHeld => ?_)
                · exact HS.out _ (bb.trans (bn.mono bb.size))
                clear hK K
                try conv => arg 8; simp only [Act.put, List.setIfInBounds_toArray, List.set_cons_zero, List.set_cons_succ]
                replace bb := bb.trans (bn.mono bb.size)
                clear bn
                refine wpAnyH_take (i := 6) (v := ?_) (by simp only [List.getElem?_toArray]; rfl) (by kernel_rfl) (by kernel_rfl) (by kernel_rfl) (by exact fun _ _ _ h => h) (Or.inl ⟨by rfl, ?_⟩) (by assumption) ?_
                rotate_left 1
                · intro w hSw; (try dsimp only at hSw); go_simp; try with_reducible rfl
                try conv => arg 8; simp only [Act.put, List.setIfInBounds_toArray, List.set_cons_zero, List.set_cons_succ]
                refine wpAnyH_take (i := 7) (v := ?_) (by simp only [List.getElem?_toArray]; rfl) (by kernel_rfl) (by kernel_rfl) (by kernel_rfl) (by exact fun _ _ _ h => h) (Or.inl ⟨by rfl, ?_⟩) (by assumption) ?_
                rotate_left 1
                · intro w hSw; (try dsimp only at hSw); go_simp; try with_reducible rfl
                try conv => arg 8; simp only [Act.put, List.setIfInBounds_toArray, List.set_cons_zero, List.set_cons_succ]
                refine wpAnyH_take (i := 8) (v := ?_) (by simp only [List.getElem?_toArray]; rfl) (by kernel_rfl) (by kernel_rfl) (by kernel_rfl) (by exact fun _ _ _ h => h) (Or.inl ⟨by rfl, ?_⟩) (by assumption) ?_
                rotate_left 1
                · intro w hSw; (try dsimp only at hSw); go_simp; try with_reducible rfl
                try conv => arg 8; simp only [Act.put, List.setIfInBounds_toArray, List.set_cons_zero, List.set_cons_succ]
                refine wpAnyH_take (i := 9) (v := ?_) (by simp only [List.getElem?_toArray]; rfl) (by kernel_rfl) (by kernel_rfl) (by kernel_rfl) (by exact fun _ _ _ h => h) (Or.inl ⟨by rfl, ?_⟩) (by assumption) ?_
                rotate_left 1
                · intro w hSw; (try dsimp only at hSw); go_simp; try with_reducible rfl
                try conv => arg 8; simp only [Act.put, List.setIfInBounds_toArray, List.set_cons_zero, List.set_cons_succ]
                refine wpAnyH_take (i := 11) (v := ?_) (by simp only [List.getElem?_toArray]; rfl) (by kernel_rfl) (by kernel_rfl) (by kernel_rfl) (by exact fun _ _ _ h => h) (Or.inl ⟨by rfl, ?_⟩) (by assumption) ?_
                rotate_left 1
                · intro w hSw; (try dsimp only at hSw); go_simp; try with_reducible rfl
                try conv => arg 8; simp only [Act.put, List.setIfInBounds_toArray, List.set_cons_zero, List.set_cons_succ]
                refine wpAnyH_take (i := 12) (v := ?_) (by simp only [List.getElem?_toArray]; rfl) (by kernel_rfl) (by kernel_rfl) (by kernel_rfl) (by exact fun _ _ _ h => h) (Or.inl ⟨by rfl, ?_⟩) (by assumption) ?_
                rotate_left 1
                · intro w hSw; (try dsimp only at hSw); go_simp; try with_reducible rfl
                try conv => arg 8; simp only [Act.put, List.setIfInBounds_toArray, List.set_cons_zero, List.set_cons_succ]
                refine wpAnyH_ready (rs := [10]) (by kernel_rfl) (by simp) ?_
                refine AllReadyH.cons (by simp only [List.getElem?_toArray]; rfl) (fun K hK => ?_) AllReadyH.nil
                refine wanted_pos (by kernel_rfl) ?_
                go_simp
                clear hHeld
                go_at_call 20
                (with_reducible refine (HFa.out _ bb).mono ?_)
                rintro e V3 ⟨rfl, bn⟩
                go_wp2_with fail
                refine hK.out _ _ ?_ (fun hHeld => ?_)
                · exact HS.out _ (bb.trans (bn.mono bb.size))
                clear hK K
                try conv => arg 8; simp only [Act.put, List.setIfInBounds_toArray, List.set_cons_zero, List.set_cons_succ]
                replace bb := bb.trans (bn.mono bb.size)
                clear bn
                refine wpAnyH_ready (rs := [13]) (by kernel_rfl) (by simp) ?_
                refine AllReadyH.cons (by simp only [List.getElem?_toArray]; rfl) (fun K hK => ?_) AllReadyH.nil
                refine wanted_pos (by kernel_rfl) ?_
                go_simp
                clear hHeld
                go_at_call 20
                (with_reducible refine (HFb.out _ bb).mono ?_)
                rintro e V4 ⟨rfl, bn⟩
                go_wp2_with fail
                refine hK.out _ _ ?_ (fun hHeld => ?_)
                · exact HS.out _ (bb.trans (bn.mono bb.size))
                clear hK K
                try conv => arg 8; simp only [Act.put, List.setIfInBounds_toArray, List.set_cons_zero, List.set_cons_succ]
                replace bb := bb.trans (bn.mono bb.size)
                clear bn
                by_cases hqq : q1 = q2
                · subst hqq
                  refine wpAnyH_take (i := 14) (v := ?_) (by simp only [List.getElem?_toArray]; rfl) (by kernel_rfl) (by kernel_rfl) (by kernel_rfl) (by exact fun _ _ _ h => h) (Or.inl ⟨by rfl, ?_⟩) (by assumption) ?_
                  rotate_left 1
                  · intro w hSw; (try dsimp only at hSw); go_simp; try with_reducible rfl
                  try conv => arg 8; simp only [Act.put, List.setIfInBounds_toArray, List.set_cons_zero, List.set_cons_succ]
                  refine wpAnyH_take (i := 15) (v := ?_) (by simp only [List.getElem?_toArray]; rfl) (by kernel_rfl) (by kernel_rfl) (by kernel_rfl) (by exact fun _ _ _ h => h) (Or.inl ⟨by rfl, ?_⟩) (by assumption) ?_
                  rotate_left 1
                  · intro w hSw; (try dsimp only at hSw); go_simp; try with_reducible rfl
                  try conv => arg 8; simp only [Act.put, List.setIfInBounds_toArray, List.set_cons_zero, List.set_cons_succ]
                  refine wpAnyH_take (i := 16) (v := ?_) (by simp only [List.getElem?_toArray]; rfl) (by kernel_rfl) (by kernel_rfl) (by kernel_rfl) (by exact fun _ _ _ h => h) (Or.inl ⟨by rfl, ?_⟩) (by assumption) ?_
                  rotate_left 1
                  · intro w hSw; (try dsimp only at hSw); go_simp; try with_reducible rfl
                  try conv => arg 8; simp only [Act.put, List.setIfInBounds_toArray, List.set_cons_zero, List.set_cons_succ]
                  refine wpAnyH_done (by kernel_rfl) ?_ _
                  clear HS
                  replace bwr := bwr.trans (bb.mono bwr.size)
                  clear hHeld a0 a1 a2 a3 a4 c0' c1' c2' c3' c4' HDO kA kB kF
                  go_wp2
                  go_ret
                  exact ⟨rfl, bwr⟩
                · have hb1 : ((q1 : Int) == (q2 : Int)) = false := by simp; omega
                  have hb2 : (q1 == q2) = false := by simp; omega
                  have hb3 : decide ((q1 : Int) = (q2 : Int)) = false := by simp; omega
                  have hb4 : decide (q1 = q2) = false := by simp; omega
                  refine wpAnyH_take (i := 14) (v := ?_) (by simp only [List.getElem?_toArray]; rfl) (by kernel_rfl) (by kernel_rfl) (by kernel_rfl) (by exact fun _ _ _ h => h) (Or.inl ⟨by rfl, ?_⟩) (by assumption) ?_
                  rotate_left 1
                  · intro w hSw; (try dsimp only at hSw); go_simp; try with_reducible rfl
                  try conv => arg 8; simp only [Act.put, List.setIfInBounds_toArray, List.set_cons_zero, List.set_cons_succ]
                  refine wpAnyH_take (i := 15) (v := ?_) (by simp only [List.getElem?_toArray]; rfl) (by kernel_rfl) (by kernel_rfl) (by kernel_rfl) (by exact fun _ _ _ h => h) (Or.inl ⟨by rfl, ?_⟩) (by assumption) ?_
                  rotate_left 1
                  · intro w hSw; (try dsimp only at hSw); go_simp; try with_reducible rfl
                  try conv => arg 8; simp only [Act.put, List.setIfInBounds_toArray, List.set_cons_zero, List.set_cons_succ]
                  refine wpAnyH_take (i := 16) (v := ?_) (by simp only [List.getElem?_toArray]; rfl) (by kernel_rfl) (by kernel_rfl) (by kernel_rfl) (by exact fun _ _ _ h => h) (Or.inl ⟨by rfl, ?_⟩) (by assumption) ?_
                  rotate_left 1
                  · intro w hSw; (try dsimp only at hSw); go_simp; try with_reducible rfl
                  try conv => arg 8; simp only [Act.put, List.setIfInBounds_toArray, List.set_cons_zero, List.set_cons_succ]
                  refine wpAnyH_done (by kernel_rfl) ?_ _
                  clear HS
                  replace bwr := bwr.trans (bb.mono bwr.size)
                  have kF := KF3.out.below bb KF3.out.lt
                  have kB := KB3.out.below bb KB3.out.lt
                  have v0 := box_cells kF 0 rfl
                  have v1 := box_cells kF 1 rfl
                  have v2 := box_cells kF 2 rfl
                  have v3 := box_cells kF 3 rfl
                  have v4 := box_cells kF 4 rfl
                  have v5 := box_cells kF 5 rfl
                  have v6 := box_cells kF 6 rfl
                  have v7 := box_cells kF 7 rfl
                  have v8 := box_cells kF 8 rfl
                  have c0'' := box_cells kB 0 rfl
                  have c1'' := box_cells kB 1 rfl
                  have c2'' := box_cells kB 2 rfl
                  have c3'' := box_cells kB 3 rfl
                  have c4'' := box_cells kB 4 rfl
                  have HDD := Lib.hid (HDO.out _ bb)
                  clear hHeld a0 a1 a2 a3 a4 c0' c1' c2' c3' c4' HDO
                  go_wp2_with fail
                  refine HDD.out.mono ?_
                  rintro e w12 ⟨bn, bz, rfl, hbz⟩
                  obtain rfl : bz = false := by
                    cases bz with
                    | false => rfl
                    | true => exact absurd (HND.out (hbz.1 rfl)) (by intro h; exact hqq h.2)
                  replace bwr := below_call bwr bn
                  go_wp2
                  go_ret
                  exact ⟨rfl, bwr⟩

              · have hpn : ¬ (p1 = p2) := hpp
                have hb1 : ((p1 : Int) == (p2 : Int)) = false := by simp; omega
                have hb2 : (p1 == p2) = false := by simp; omega
                have hb3 : decide ((p1 : Int) = (p2 : Int)) = false := by simp; omega
                have hb4 : decide (p1 = p2) = false := by simp; omega
                have HS := Lib.hid fun (W : World) (bW : Below wr.heap.size wr W) => (show W.cell? ⟨gA, 0, none⟩ = some (.slice v.ca v.cn v.cc) ∧ W.cell? ⟨gA, 1, none⟩ = some (.slice v.fa v.fn v.fc) ∧ W.cell? ⟨gA, 2, none⟩ = some (.slice v.ba v.bn v.bc) ∧ W.cell? ⟨gA, 3, none⟩ = some (.slice v.ea v.en v.ec) ∧ W.cell? ⟨gA, 4, none⟩ = some (.slice v.ga v.gn v.gc) ∧ W.cell? ⟨gB, 0, none⟩ = some (.slice u.ca u.cn u.cc) ∧ W.cell? ⟨gB, 1, none⟩ = some (.slice u.fa u.fn u.fc) ∧ W.cell? ⟨gB, 2, none⟩ = some (.slice u.ba u.bn u.bc) ∧ W.cell? ⟨gB, 3, none⟩ = some (.slice u.ea u.en u.ec) ∧ W.cell? ⟨gB, 4, none⟩ = some (.slice u.ga u.gn u.gc) from ⟨cell_call a0 bW, cell_call a1 bW, cell_call a2 bW, cell_call a3 bW, cell_call a4 bW, cell_call c0' bW, cell_call c1' bW, cell_call c2' bW, cell_call c3' bW, cell_call c4' bW⟩)
                have bb := Below.refl wr.heap.size wr
                refine wp_region_held_drew (S := fun w' => w'.cell? ⟨gA, 0, none⟩ = some (.slice v.ca v.cn v.cc) ∧ w'.cell? ⟨gA, 1, none⟩ = some (.slice v.fa v.fn v.fc) ∧ w'.cell? ⟨gA, 2, none⟩ = some (.slice v.ba v.bn v.bc) ∧ w'.cell? ⟨gA, 3, none⟩ = some (.slice v.ea v.en v.ec) ∧ w'.cell? ⟨gA, 4, none⟩ = some (.slice v.ga v.gn v.gc) ∧ w'.cell? ⟨gB, 0, none⟩ = some (.slice u.ca u.cn u.cc) ∧ w'.cell? ⟨gB, 1, none⟩ = some (.slice u.fa u.fn u.fc) ∧ w'.cell? ⟨gB, 2, none⟩ = some (.slice u.ba u.bn u.bc) ∧ w'.cell? ⟨gB, 3, none⟩ = some (.slice u.ea u.en u.ec) ∧ w'.cell? ⟨gB, 4, none⟩ = some (.slice u.ga u.gn u.gc)) (by kernel_rfl) ?_ (fun hHeld => ?_)
                · exact HS.out _ (below_drewN bb 1)
                replace bb := below_drewN bb 1
                change Below _ _ wr.drew at bb
                generalize hw0 : wr.drew = W0 at hHeld bb ⊢
                clear hw0
                refine wpAnyH_take (i := 0) (v := ?_) (by simp only [List.getElem?_toArray]; rfl) (by kernel_rfl) (by kernel_rfl) (by kernel_rfl) (by exact fun _ _ _ h => h) (Or.inl ⟨by rfl, ?_⟩) (by assumption) ?_
                rotate_left 1
                · intro w hSw; (try dsimp only at hSw); go_simp; try with_reducible rfl
                try conv => arg 8; simp only [Act.put, List.setIfInBounds_toArray, List.set_cons_zero, List.set_cons_succ]
                refine wpAnyH_take (i := 1) (v := ?_) (by simp only [List.getElem?_toArray]; rfl) (by kernel_rfl) (by kernel_rfl) (by kernel_rfl) (by exact fun _ _ _ h => h) (Or.inl ⟨by rfl, ?_⟩) (by assumption) ?_
                rotate_left 1
                · intro w hSw; (try dsimp only at hSw); go_simp; try with_reducible rfl
                try conv => arg 8; simp only [Act.put, List.setIfInBounds_toArray, List.set_cons_zero, List.set_cons_succ]
                refine wpAnyH_take (i := 3) (v := ?_) (by simp only [List.getElem?_toArray]; rfl) (by kernel_rfl) (by kernel_rfl) (by kernel_rfl) (by exact fun _ _ _ h => h) (Or.inl ⟨by rfl, ?_⟩) (by assumption) ?_
                rotate_left 1
                · intro w hSw; (try dsimp only at hSw); go_simp; try with_reducible rfl
                try conv => arg 8; simp only [Act.put, List.setIfInBounds_toArray, List.set_cons_zero, List.set_cons_succ]
                refine wpAnyH_take (i := 4) (v := ?_) (by simp only [List.getElem?_toArray]; rfl) (by kernel_rfl) (by kernel_rfl) (by kernel_rfl) (by exact fun _ _ _ h => h) (Or.inl ⟨by rfl, ?_⟩) (by assumption) ?_
                rotate_left 1
                · intro w hSw; (try dsimp only at hSw); go_simp; try with_reducible rfl
                try conv => arg 8; simp only [Act.put, List.setIfInBounds_toArray, List.set_cons_zero, List.set_cons_succ]
                refine wpAnyH_ready (rs := [2]) (by kernel_rfl) (by simp) ?_
                refine AllReadyH.cons (by simp only [List.getElem?_toArray]; rfl) (fun K hK => ?_) AllReadyH.nil
                refine wanted_pos (by kernel_rfl) ?_
                go_simp
                clear hHeld
                go_at_call 19
                (with_reducible refine (HBa.out _ bb).mono ?_)
                rintro e V1 ⟨rfl, bn⟩
                go_wp2_with fail
                refine hK.out _ _ ?_ (fun hHeld => ?_)
                · exact HS.out _ (bb.trans (bn.mono bb.size))
                clear hK K
                try conv => arg 8; simp only [Act.put, List.setIfInBounds_toArray, List.set_cons_zero, List.set_cons_succ]
                replace bb := bb.trans (bn.mono bb.size)
                clear bn
                refine wpAnyH_ready (rs := [5]) (by kernel_rfl) (by simp) ?_
                refine AllReadyH.cons (by simp only [List.getElem?_toArray]; rfl) (fun K hK => ?_) AllReadyH.nil
                refine wanted_pos (by kernel_rfl) ?_
                go_simp
                clear hHeld
                go_at_call 19
                (with_reducible refine (HBb.out _ bb).mono ?_)
                rintro e V2 ⟨rfl, bn⟩
                go_wp2_with fail
                refine hK.out _ _ ?_ (fun hHeld => ?_)
                · exact HS.out _ (bb.trans (bn.mono bb.size))
                clear hK K
                try conv => arg 8; simp only [Act.put, List.setIfInBounds_toArray, List.set_cons_zero, List.set_cons_succ]
                replace bb := bb.trans (bn.mono bb.size)
                clear bn
                refine wpAnyH_take (i := 6) (v := ?_) (by simp only [List.getElem?_toArray]; rfl) (by kernel_rfl) (by kernel_rfl) (by kernel_rfl) (by exact fun _ _ _ h => h) (Or.inl ⟨by rfl, ?_⟩) (by assumption) ?_
                rotate_left 1
                · intro w hSw; (try dsimp only at hSw); go_simp; try with_reducible rfl
                try conv => arg 8; simp only [Act.put, List.setIfInBounds_toArray, List.set_cons_zero, List.set_cons_succ]
                refine wpAnyH_take (i := 7) (v := ?_) (by simp only [List.getElem?_toArray]; rfl) (by kernel_rfl) (by kernel_rfl) (by kernel_rfl) (by exact fun _ _ _ h => h) (Or.inl ⟨by rfl, ?_⟩) (by assumption) ?_
                rotate_left 1
                · intro w hSw; (try dsimp only at hSw); go_simp; try with_reducible rfl
                try conv => arg 8; simp only [Act.put, List.setIfInBounds_toArray, List.set_cons_zero, List.set_cons_succ]
                refine wpAnyH_take (i := 8) (v := undef) (by simp only [List.getElem?_toArray]; rfl) (by kernel_rfl) (by kernel_rfl) (by kernel_rfl) (by exact fun _ _ _ h => h) (Or.inr ⟨by rfl, rfl⟩) (by assumption) ?_
                try conv => arg 8; simp only [Act.put, List.setIfInBounds_toArray, List.set_cons_zero, List.set_cons_succ]
                refine wpAnyH_take (i := 9) (v := undef) (by simp only [List.getElem?_toArray]; rfl) (by kernel_rfl) (by kernel_rfl) (by kernel_rfl) (by exact fun _ _ _ h => h) (Or.inr ⟨by rfl, rfl⟩) (by assumption) ?_
                try conv => arg 8; simp only [Act.put, List.setIfInBounds_toArray, List.set_cons_zero, List.set_cons_succ]
                refine wpAnyH_take (i := 10) (v := undef) (by simp only [List.getElem?_toArray]; rfl) (by kernel_rfl) (by kernel_rfl) (by kernel_rfl) (by exact fun _ _ _ h => h) (Or.inr ⟨by rfl, rfl⟩) (by assumption) ?_
                try conv => arg 8; simp only [Act.put, List.setIfInBounds_toArray, List.set_cons_zero, List.set_cons_succ]
                refine wpAnyH_take (i := 11) (v := undef) (by simp only [List.getElem?_toArray]; rfl) (by kernel_rfl) (by kernel_rfl) (by kernel_rfl) (by exact fun _ _ _ h => h) (Or.inr ⟨by rfl, rfl⟩) (by assumption) ?_
                try conv => arg 8; simp only [Act.put, List.setIfInBounds_toArray, List.set_cons_zero, List.set_cons_succ]
                refine wpAnyH_take (i := 12) (v := undef) (by simp only [List.getElem?_toArray]; rfl) (by kernel_rfl) (by kernel_rfl) (by kernel_rfl) (by exact fun _ _ _ h => h) (Or.inr ⟨by rfl, rfl⟩) (by assumption) ?_
                try conv => arg 8; simp only [Act.put, List.setIfInBounds_toArray, List.set_cons_zero, List.set_cons_succ]
                refine wpAnyH_take (i := 13) (v := undef) (by simp only [List.getElem?_toArray]; rfl) (by kernel_rfl) (by kernel_rfl) (by kernel_rfl) (by exact fun _ _ _ h => h) (Or.inr ⟨by rfl, rfl⟩) (by assumption) ?_
                try conv => arg 8; simp only [Act.put, List.setIfInBounds_toArray, List.set_cons_zero, List.set_cons_succ]
                refine wpAnyH_take (i := 14) (v := undef) (by simp only [List.getElem?_toArray]; rfl) (by kernel_rfl) (by kernel_rfl) (by kernel_rfl) (by exact fun _ _ _ h => h) (Or.inr ⟨by rfl, rfl⟩) (by assumption) ?_
                try conv => arg 8; simp only [Act.put, List.setIfInBounds_toArray, List.set_cons_zero, List.set_cons_succ]
                refine wpAnyH_take (i := 15) (v := ?_) (by simp only [List.getElem?_toArray]; rfl) (by kernel_rfl) (by kernel_rfl) (by kernel_rfl) (by exact fun _ _ _ h => h) (Or.inl ⟨by rfl, ?_⟩) (by assumption) ?_
                rotate_left 1
                · intro w hSw; (try dsimp only at hSw); go_simp; try with_reducible rfl
                try conv => arg 8; simp only [Act.put, List.setIfInBounds_toArray, List.set_cons_zero, List.set_cons_succ]
                refine wpAnyH_take (i := 16) (v := ?_) (by simp only [List.getElem?_toArray]; rfl) (by kernel_rfl) (by kernel_rfl) (by kernel_rfl) (by exact fun _ _ _ h => h) (Or.inl ⟨by rfl, ?_⟩) (by assumption) ?_
                rotate_left 1
                · intro w hSw; (try dsimp only at hSw); go_simp; try with_reducible rfl
                try conv => arg 8; simp only [Act.put, List.setIfInBounds_toArray, List.set_cons_zero, List.set_cons_succ]
                refine wpAnyH_done (by kernel_rfl) ?_ _
                clear HS
                replace bwr := bwr.trans (bb.mono bwr.size)
                have kF := KF3.out.below bb KF3.out.lt
                have kB := KB3.out.below bb KB3.out.lt
                have v0 := box_cells kF 0 rfl
                have v1 := box_cells kF 1 rfl
                have v2 := box_cells kF 2 rfl
                have v3 := box_cells kF 3 rfl
                have v4 := box_cells kF 4 rfl
                have v5 := box_cells kF 5 rfl
                have v6 := box_cells kF 6 rfl
                have v7 := box_cells kF 7 rfl
                have v8 := box_cells kF 8 rfl
                have c0'' := box_cells kB 0 rfl
                have c1'' := box_cells kB 1 rfl
                have c2'' := box_cells kB 2 rfl
                have c3'' := box_cells kB 3 rfl
                have c4'' := box_cells kB 4 rfl
                have HDD := Lib.hid (HDO.out _ bb)
                clear hHeld a0 a1 a2 a3 a4 c0' c1' c2' c3' c4' HDO
                go_wp2_with fail
                refine HDD.out.mono ?_
                rintro e w12 ⟨bn, bz, rfl, hbz⟩
                obtain rfl : bz = false := by
                  cases bz with
                  | false => rfl
                  | true => exact absurd (HND.out (hbz.1 rfl)) (by intro h; exact hpn h.1)
                replace bwr := below_call bwr bn
                go_wp2
                go_ret
                exact ⟨rfl, bwr⟩


          · have inn : ¬ (i : Int) < (n2 : Int) := by omega
            have htk : l2.take i = l2.take 10 := by rw [List.take_of_length_le (show l2.length ≤ 10 by rw [L2.out]; omega), List.take_of_length_le (show l2.length ≤ i by rw [L2.out]; omega)]
            rw [htk] at htw
            have hy0 := modG_ok hgn0 (l1.take 10)
            have hy1 := modG_ok hgn0 (l2.take 10)
            obtain ⟨y0, hY0⟩ : ∃ y, modG gn (l1.take 10) = y := ⟨_, rfl⟩
            obtain ⟨y1, hY1⟩ : ∃ y, modG gn (l2.take 10) = y := ⟨_, rfl⟩
            rw [hY0] at hy0 htw
            rw [hY1] at hy1 htw
            have s0 := (built_says HAU.out y0 hy0).2
            have s1 := (built_says HAU.out y1 hy1).1
            have HND := Lib.hid (show DoesF (fontF gn (madeR (rs.take 3))) 0 b → backA a y0 = backA b y0 ∧ foreA a y1 = foreA b y1 from fun h => ⟨s0.trans (does_says h y0 hy0).2.symm, s1.trans (does_says h y1 hy1).1.symm⟩)
            have hl0 : mb ≤ 9223372036854775807 := by have := htw.o0.cap; omega
            have hl1 : i ≤ 9223372036854775807 := by have := htw.o1.cap; omega
            have bwr := below_trans2 BB.out htw.bl
            have kA := KA.out.below htw.bl KA.out.lt
            have kB := KB.out.below htw.bl KB.out.lt
            have kF := KF.out.below htw.bl KF.out.lt
            have hFw := HFB.out.call htw.bl
            have hAw := HAB.out.call htw.bl
            have hBw := HBB.out.call htw.bl
            have r0 := htw.o0.rd
            have r1 := htw.o1.rd
            have HBa := Lib.hid fun (W : World) (bW : Below wr.heap.size wr W) => Back_c v a Ab mb db y0 W (hAw.call bW) (r0.call bW) hl0
            have HBb := Lib.hid fun (W : World) (bW : Below wr.heap.size wr W) => Back_c u b Ab mb db y0 W (hBw.call bW) (r0.call bW) hl0
            have HFa := Lib.hid fun (W : World) (bW : Below wr.heap.size wr W) => Fore_c v a Ax i d y1 W (hAw.call bW) (r1.call bW) hl1
            have HFb := Lib.hid fun (W : World) (bW : Below wr.heap.size wr W) => Fore_c u b Ax i d y1 W (hBw.call bW) (r1.call bW) hl1
            have HDO := Lib.hid fun (W : World) (bW : Below wr.heap.size wr W) => does_c f (fontF gn (madeR (rs.take 3))) 0 u b W (hFw.call bW) HSM.out (hBw.call bW) (by omega) (by omega)
            obtain ⟨p1, hp1⟩ : ∃ x, backA a y0 = x := ⟨_, rfl⟩
            obtain ⟨p2, hp2⟩ : ∃ x, backA b y0 = x := ⟨_, rfl⟩
            obtain ⟨q1, hq1⟩ : ∃ x, foreA a y1 = x := ⟨_, rfl⟩
            obtain ⟨q2, hq2⟩ : ∃ x, foreA b y1 = x := ⟨_, rfl⟩
            rw [hp1] at HBa
            rw [hp2] at HBb
            rw [hq1] at HFa
            rw [hq2] at HFb
            rw [hp1, hp2, hq1, hq2] at HND
            unfold AV.cells at HBa HBb HFa HFb HDO
            unfold FV.cells at HDO
            clear s0 s1 hy0 hy1 hY0 hY1 htk htw r0 r1 hAw hBw hFw hp1 hp2 hq1 hq2
            have a0 := box_cells kA 0 rfl
            have a1 := box_cells kA 1 rfl
            have a2 := box_cells kA 2 rfl
            have a3 := box_cells kA 3 rfl
            have a4 := box_cells kA 4 rfl
            have c0' := box_cells kB 0 rfl
            have c1' := box_cells kB 1 rfl
            have c2' := box_cells kB 2 rfl
            have c3' := box_cells kB 3 rfl
            have c4' := box_cells kB 4 rfl
            have v0 := box_cells kF 0 rfl
            have v1 := box_cells kF 1 rfl
            have v2 := box_cells kF 2 rfl
            have v3 := box_cells kF 3 rfl
            have v4 := box_cells kF 4 rfl
            have v5 := box_cells kF 5 rfl
            have v6 := box_cells kF 6 rfl
            have v7 := box_cells kF 7 rfl
            have v8 := box_cells kF 8 rfl
            go_upto_region 17 with fail
            clear yx hi10 hin hlt inn
            have KF3 := Lib.hid kF; have KB3 := Lib.hid kB
            clear v0 v1 v2 v3 v4 v5 v6 v7 v8
            by_cases hpp : p1 = p2
            · have HPP := Lib.hid hpp
              rw [← hpp] at HBb
              clear hpp
              have HS := Lib.hid fun (W : World) (bW : Below wr.heap.size wr W) => (show W.cell? ⟨gA, 0, none⟩ = some (.slice v.ca v.cn v.cc) ∧ W.cell? ⟨gA, 1, none⟩ = some (.slice v.fa v.fn v.fc) ∧ W.cell? ⟨gA, 2, none⟩ = some (.slice v.ba v.bn v.bc) ∧ W.cell? ⟨gA, 3, none⟩ = some (.slice v.ea v.en v.ec) ∧ W.cell? ⟨gA, 4, none⟩ = some (.slice v.ga v.gn v.gc) ∧ W.cell? ⟨gB, 0, none⟩ = some (.slice u.ca u.cn u.cc) ∧ W.cell? ⟨gB, 1, none⟩ = some (.slice u.fa u.fn u.fc) ∧ W.cell? ⟨gB, 2, none⟩ = some (.slice u.ba u.bn u.bc) ∧ W.cell? ⟨gB, 3, none⟩ = some (.slice u.ea u.en u.ec) ∧ W.cell? ⟨gB, 4, none⟩ = some (.slice u.ga u.gn u.gc) from ⟨cell_call a0 bW, cell_call a1 bW, cell_call a2 bW, cell_call a3 bW, cell_call a4 bW, cell_call c0' bW, cell_call c1' bW, cell_call c2' bW, cell_call c3' bW, cell_call c4' bW⟩)
              have bb := Below.refl wr.heap.size wr
              refine wp_region_held_drew (S := fun w' => w'.cell? ⟨gA, 0, none⟩ = some (.slice v.ca v.cn v.cc) ∧ w'.cell? ⟨gA, 1, none⟩ = some (.slice v.fa v.fn v.fc) ∧ w'.cell? ⟨gA, 2, none⟩ = some (.slice v.ba v.bn v.bc) ∧ w'.cell? ⟨gA, 3, none⟩ = some (.slice v.ea v.en v.ec) ∧ w'.cell? ⟨gA, 4, none⟩ = some (.slice v.ga v.gn v.gc) ∧ w'.cell? ⟨gB, 0, none⟩ = some (.slice u.ca u.cn u.cc) ∧ w'.cell? ⟨gB, 1, none⟩ = some (.slice u.fa u.fn u.fc) ∧ w'.cell? ⟨gB, 2, none⟩ = some (.slice u.ba u.bn u.bc) ∧ w'.cell? ⟨gB, 3, none⟩ = some (.slice u.ea u.en u.ec) ∧ w'.cell? ⟨gB, 4, none⟩ = some (.slice u.ga u.gn u.gc)) (by kernel_rfl) ?_ (fun hHeld => ?_)
              · exact HS.out _ (below_drewN bb 1)
              replace bb := below_drewN bb 1
              change Below _ _ wr.drew at bb
              generalize hw0 : wr.drew = W0 at hHeld bb ⊢
              clear hw0
              refine wpAnyH_take (i := 0) (v := ?_) (by simp only [List.getElem?_toArray]; rfl) (by kernel_rfl) (by kernel_rfl) (by kernel_rfl) (by exact fun _ _ _ h => h) (Or.inl ⟨by rfl, ?_⟩) (by assumption) ?_
              rotate_left 1
              · intro w hSw; (try dsimp only at hSw); go_simp; try with_reducible rfl
              try conv => arg 8; simp only [Act.put, List.setIfInBounds_toArray, List.set_cons_zero, List.set_cons_succ]
              refine wpAnyH_take (i := 1) (v := ?_) (by simp only [List.getElem?_toArray]; rfl) (by kernel_rfl) (by kernel_rfl) (by kernel_rfl) (by exact fun _ _ _ h => h) (Or.inl ⟨by rfl, ?_⟩) (by assumption) ?_
              rotate_left 1
              · intro w hSw; (try dsimp only at hSw); go_simp; try with_reducible rfl
              try conv => arg 8; simp only [Act.put, List.setIfInBounds_toArray, List.set_cons_zero, List.set_cons_succ]
              refine wpAnyH_take (i := 3) (v := ?_) (by simp only [List.getElem?_toArray]; rfl) (by kernel_rfl) (by kernel_rfl) (by kernel_rfl) (by exact fun _ _ _ h => h) (Or.inl ⟨by rfl, ?_⟩) (by assumption) ?_
              rotate_left 1
              · intro w hSw; (try dsimp only at hSw); go_simp; try with_reducible rfl
              try conv => arg 8; simp only [Act.put, List.setIfInBounds_toArray, List.set_cons_zero, List.set_cons_succ]
              refine wpAnyH_take (i := 4) (v := ?_) (by simp only [List.getElem?_toArray]; rfl) (by kernel_rfl) (by kernel_rfl) (by kernel_rfl) (by exact fun _ _ _ h => h) (Or.inl ⟨by rfl, ?_⟩) (by assumption) ?_
              rotate_left 1
              · intro w hSw; (try dsimp only at hSw); go_simp; try with_reducible rfl
              try conv => arg 8; simp only [Act.put, List.setIfInBounds_toArray, List.set_cons_zero, List.set_cons_succ]
              refine wpAnyH_ready (rs := [2]) (by kernel_rfl) (by simp) ?_
              refine AllReadyH.cons (by simp only [List.getElem?_toArray]; rfl) (fun K hK => ?_) AllReadyH.nil
              refine wanted_pos (by kernel_rfl) ?_
              go_simp
              clear hHeld
              go_at_call 19
              (with_reducible refine (HBa.out _ bb).mono ?_)
              rintro e V1 ⟨rfl, bn⟩
              go_wp2_with fail
              refine hK.out _ _ ?_ (fun hHeld => ?_)
              · exact HS.out _ (bb.trans (bn.mono bb.size))
              clear hK K
              try conv => arg 8; simp only [Act.put, List.setIfInBounds_toArray, List.set_cons_zero, List.set_cons_succ]
              replace bb := bb.trans (bn.mono bb.size)
              clear bn
              refine wpAnyH_ready (rs := [5]) (by kernel_rfl) (by simp) ?_
              refine AllReadyH.cons (by simp only [List.getElem?_toArray]; rfl) (fun K hK => ?_) AllReadyH.nil
              refine wanted_pos (by kernel_rfl) ?_
              go_simp
              clear hHeld
              go_at_call 19
              (with_reducible refine (HBb.out _ bb).mono ?_)
              rintro e V2 ⟨rfl, bn⟩
              go_wp2_with fail
              refine hK.out _ _ ?_ (fun hHeld => ?_)
              · exact HS.out _ (bb.trans (bn.mono bb.size))
              clear hK K
              try conv => arg 8; simp only [Act.put, List.setIfInBounds_toArray, List.set_cons_zero, List.set_cons_succ]
              replace bb := bb.trans (bn.mono bb.size)
              clear bn
              refine wpAnyH_take (i := 6) (v := ?_) (by simp only [List.getElem?_toArray]; rfl) (by kernel_rfl) (by kernel_rfl) (by kernel_rfl) (by exact fun _ _ _ h => h) (Or.inl ⟨by rfl, ?_⟩) (by assumption) ?_
              rotate_left 1
              · intro w hSw; (try dsimp only at hSw); go_simp; try with_reducible rfl
              try conv => arg 8; simp only [Act.put, List.setIfInBounds_toArray, List.set_cons_zero, List.set_cons_succ]
              refine wpAnyH_take (i := 7) (v := ?_) (by simp only [List.getElem?_toArray]; rfl) (by kernel_rfl) (by kernel_rfl) (by kernel_rfl) (by exact fun _ _ _ h => h) (Or.inl ⟨by rfl, ?_⟩) (by assumption) ?_
              rotate_left 1
              · intro w hSw; (try dsimp only at hSw); go_simp; try with_reducible rfl
              try conv => arg 8; simp only [Act.put, List.setIfInBounds_toArray, List.set_cons_zero, List.set_cons_succ]
              refine wpAnyH_take (i := 8) (v := ?_) (by simp only [List.getElem?_toArray]; rfl) (by kernel_rfl) (by kernel_rfl) (by kernel_rfl) (by exact fun _ _ _ h => h) (Or.inl ⟨by rfl, ?_⟩) (by assumption) ?_
              rotate_left 1
              · intro w hSw; (try dsimp only at hSw); go_simp; try with_reducible rfl
              try conv => arg 8; simp only [Act.put, List.setIfInBounds_toArray, List.set_cons_zero, List.set_cons_succ]
              refine wpAnyH_take (i := 9) (v := ?_) (by simp only [List.getElem?_toArray]; rfl) (by kernel_rfl) (by kernel_rfl) (by kernel_rfl) (by exact fun _ _ _ h => h) (Or.inl ⟨by rfl, ?_⟩) (by assumption) ?_
              rotate_left 1
              · intro w hSw; (try dsimp only at hSw); go_simp; try with_reducible rfl
              try conv => arg 8; simp only [Act.put, List.setIfInBounds_toArray, List.set_cons_zero, List.set_cons_succ]
              refine wpAnyH_take (i := 11) (v := ?_) (by simp only [List.getElem?_toArray]; rfl) (by kernel_rfl) (by kernel_rfl) (by kernel_rfl) (by exact fun _ _ _ h => h) (Or.inl ⟨by rfl, ?_⟩) (by assumption) ?_
              rotate_left 1
              · intro w hSw; (try dsimp only at hSw); go_simp; try with_reducible rfl
              try conv => arg 8; simp only [Act.put, List.setIfInBounds_toArray, List.set_cons_zero, List.set_cons_succ]
              refine wpAnyH_take (i := 12) (v := ?_) (by simp only [List.getElem?_toArray]; rfl) (by kernel_rfl) (by kernel_rfl) (by kernel_rfl) (by exact fun _ _ _ h => h) (Or.inl ⟨by rfl, ?_⟩) (by assumption) ?_
              rotate_left 1
              · intro w hSw; (try dsimp only at hSw); go_simp; try with_reducible rfl
              try conv => arg 8; simp only [Act.put, List.setIfInBounds_toArray, List.set_cons_zero, List.set_cons_succ]
              refine wpAnyH_ready (rs := [10]) (by kernel_rfl) (by simp) ?_
              refine AllReadyH.cons (by simp only [List.getElem?_toArray]; rfl) (fun K hK => ?_) AllReadyH.nil
              refine wanted_pos (by kernel_rfl) ?_
              go_simp
              clear hHeld
              go_at_call 20
              (with_reducible refine (HFa.out _ bb).mono ?_)
              rintro e V3 ⟨rfl, bn⟩
              go_wp2_with fail
              refine hK.out _ _ ?_ (fun hHeld => ?_)
              · exact HS.out _ (bb.trans (bn.mono bb.size))
              clear hK K
              try conv => arg 8; simp only [Act.put, List.setIfInBounds_toArray, List.set_cons_zero, List.set_cons_succ]
              replace bb := bb.trans (bn.mono bb.size)
              clear bn
              refine wpAnyH_ready (rs := [13]) (by kernel_rfl) (by simp) ?_
              refine AllReadyH.cons (by simp only [List.getElem?_toArray]; rfl) (fun K hK => ?_) AllReadyH.nil
              refine wanted_pos (by kernel_rfl) ?_
              go_simp
              clear hHeld
              go_at_call 20
              (with_reducible refine (HFb.out _ bb).mono ?_)
              rintro e V4 ⟨rfl, bn⟩
              go_wp2_with fail
              refine hK.out _ _ ?_ (fun hHeld => ?_)
              · exact HS.out _ (bb.trans (bn.mono bb.size))
              clear hK K
              try conv => arg 8; simp only [Act.put, List.setIfInBounds_toArray, List.set_cons_zero, List.set_cons_succ]
              replace bb := bb.trans (bn.mono bb.size)
              clear bn
              by_cases hqq : q1 = q2
              · subst hqq
                refine wpAnyH_take (i := 14) (v := ?_) (by simp only [List.getElem?_toArray]; rfl) (by kernel_rfl) (by kernel_rfl) (by kernel_rfl) (by exact fun _ _ _ h => h) (Or.inl ⟨by rfl, ?_⟩) (by assumption) ?_
                rotate_left 1
                · intro w hSw; (try dsimp only at hSw); go_simp; try with_reducible rfl
                try conv => arg 8; simp only [Act.put, List.setIfInBounds_toArray, List.set_cons_zero, List.set_cons_succ]
                refine wpAnyH_take (i := 15) (v := ?_) (by simp only [List.getElem?_toArray]; rfl) (by kernel_rfl) (by kernel_rfl) (by kernel_rfl) (by exact fun _ _ _ h => h) (Or.inl ⟨by rfl, ?_⟩) (by assumption) ?_
                rotate_left 1
                · intro w hSw; (try dsimp only at hSw); go_simp; try with_reducible rfl
                try conv => arg 8; simp only [Act.put, List.setIfInBounds_toArray, List.set_cons_zero, List.set_cons_succ]
                refine wpAnyH_take (i := 16) (v := ?_) (by simp only [List.getElem?_toArray]; rfl) (by kernel_rfl) (by kernel_rfl) (by kernel_rfl) (by exact fun _ _ _ h => h) (Or.inl ⟨by rfl, ?_⟩) (by assumption) ?_
                rotate_left 1
                · intro w hSw; (try dsimp only at hSw); go_simp; try with_reducible rfl
                try conv => arg 8; simp only [Act.put, List.setIfInBounds_toArray, List.set_cons_zero, List.set_cons_succ]
                refine wpAnyH_done (by kernel_rfl) ?_ _
                clear HS
                replace bwr := bwr.trans (bb.mono bwr.size)
                clear hHeld a0 a1 a2 a3 a4 c0' c1' c2' c3' c4' HDO kA kB kF
                go_wp2
                go_ret
                exact ⟨rfl, bwr⟩
              · have hb1 : ((q1 : Int) == (q2 : Int)) = false := by simp; omega
                have hb2 : (q1 == q2) = false := by simp; omega
                have hb3 : decide ((q1 : Int) = (q2 : Int)) = false := by simp; omega
                have hb4 : decide (q1 = q2) = false := by simp; omega
                refine wpAnyH_take (i := 14) (v := ?_) (by simp only [List.getElem?_toArray]; rfl) (by kernel_rfl) (by kernel_rfl) (by kernel_rfl) (by exact fun _ _ _ h => h) (Or.inl ⟨by rfl, ?_⟩) (by assumption) ?_
                rotate_left 1
                · intro w hSw; (try dsimp only at hSw); go_simp; try with_reducible rfl
                try conv => arg 8; simp only [Act.put, List.setIfInBounds_toArray, List.set_cons_zero, List.set_cons_succ]
                refine wpAnyH_take (i := 15) (v := ?_) (by simp only [List.getElem?_toArray]; rfl) (by kernel_rfl) (by kernel_rfl) (by kernel_rfl) (by exact fun _ _ _ h => h) (Or.inl ⟨by rfl, ?_⟩) (by assumption) ?_
                rotate_left 1
                · intro w hSw; (try dsimp only at hSw); go_simp; try with_reducible rfl
                try conv => arg 8; simp only [Act.put, List.setIfInBounds_toArray, List.set_cons_zero, List.set_cons_succ]
                refine wpAnyH_take (i := 16) (v := ?_) (by simp only [List.getElem?_toArray]; rfl) (by kernel_rfl) (by kernel_rfl) (by kernel_rfl) (by exact fun _ _ _ h => h) (Or.inl ⟨by rfl, ?_⟩) (by assumption) ?_
                rotate_left 1
                · intro w hSw; (try dsimp only at hSw); go_simp; try with_reducible rfl
                try conv => arg 8; simp only [Act.put, List.setIfInBounds_toArray, List.set_cons_zero, List.set_cons_succ]
                refine wpAnyH_done (by kernel_rfl) ?_ _
                clear HS
                replace bwr := bwr.trans (bb.mono bwr.size)
                have kF := KF3.out.below bb KF3.out.lt
                have kB := KB3.out.below bb KB3.out.lt
                have v0 := box_cells kF 0 rfl
                have v1 := box_cells kF 1 rfl
                have v2 := box_cells kF 2 rfl
                have v3 := box_cells kF 3 rfl
                have v4 := box_cells kF 4 rfl
                have v5 := box_cells kF 5 rfl
                have v6 := box_cells kF 6 rfl
                have v7 := box_cells kF 7 rfl
                have v8 := box_cells kF 8 rfl
                have c0'' := box_cells kB 0 rfl
                have c1'' := box_cells kB 1 rfl
                have c2'' := box_cells kB 2 rfl
                have c3'' := box_cells kB 3 rfl
                have c4'' := box_cells kB 4 rfl
                have HDD := Lib.hid (HDO.out _ bb)
                clear hHeld a0 a1 a2 a3 a4 c0' c1' c2' c3' c4' HDO
                go_wp2_with fail
                refine HDD.out.mono ?_
                rintro e w12 ⟨bn, bz, rfl, hbz⟩
                obtain rfl : bz = false := by
                  cases bz with
                  | false => rfl
                  | true => exact absurd (HND.out (hbz.1 rfl)) (by intro h; exact hqq h.2)
                replace bwr := below_call bwr bn
                go_wp2
                go_ret
                exact ⟨rfl, bwr⟩

            · have hpn : ¬ (p1 = p2) := hpp
              have hb1 : ((p1 : Int) == (p2 : Int)) = false := by simp; omega
              have hb2 : (p1 == p2) = false := by simp; omega
              have hb3 : decide ((p1 : Int) = (p2 : Int)) = false := by simp; omega
              have hb4 : decide (p1 = p2) = false := by simp; omega
              have HS := Lib.hid fun (W : World) (bW : Below wr.heap.size wr W) => (show W.cell? ⟨gA, 0, none⟩ = some (.slice v.ca v.cn v.cc) ∧ W.cell? ⟨gA, 1, none⟩ = some (.slice v.fa v.fn v.fc) ∧ W.cell? ⟨gA, 2, none⟩ = some (.slice v.ba v.bn v.bc) ∧ W.cell? ⟨gA, 3, none⟩ = some (.slice v.ea v.en v.ec) ∧ W.cell? ⟨gA, 4, none⟩ = some (.slice v.ga v.gn v.gc) ∧ W.cell? ⟨gB, 0, none⟩ = some (.slice u.ca u.cn u.cc) ∧ W.cell? ⟨gB, 1, none⟩ = some (.slice u.fa u.fn u.fc) ∧ W.cell? ⟨gB, 2, none⟩ = some (.slice u.ba u.bn u.bc) ∧ W.cell? ⟨gB, 3, none⟩ = some (.slice u.ea u.en u.ec) ∧ W.cell? ⟨gB, 4, none⟩ = some (.slice u.ga u.gn u.gc) from ⟨cell_call a0 bW, cell_call a1 bW, cell_call a2 bW, cell_call a3 bW, cell_call a4 bW, cell_call c0' bW, cell_call c1' bW, cell_call c2' bW, cell_call c3' bW, cell_call c4' bW⟩)
              have bb := Below.refl wr.heap.size wr
              refine wp_region_held_drew (S := fun w' => w'.cell? ⟨gA, 0, none⟩ = some (.slice v.ca v.cn v.cc) ∧ w'.cell? ⟨gA, 1, none⟩ = some (.slice v.fa v.fn v.fc) ∧ w'.cell? ⟨gA, 2, none⟩ = some (.slice v.ba v.bn v.bc) ∧ w'.cell? ⟨gA, 3, none⟩ = some (.slice v.ea v.en v.ec) ∧ w'.cell? ⟨gA, 4, none⟩ = some (.slice v.ga v.gn v.gc) ∧ w'.cell? ⟨gB, 0, none⟩ = some (.slice u.ca u.cn u.cc) ∧ w'.cell? ⟨gB, 1, none⟩ = some (.slice u.fa u.fn u.fc) ∧ w'.cell? ⟨gB, 2, none⟩ = some (.slice u.ba u.bn u.bc) ∧ w'.cell? ⟨gB, 3, none⟩ = some (.slice u.ea u.en u.ec) ∧ w'.cell? ⟨gB, 4, none⟩ = some (.slice u.ga u.gn u.gc)) (by kernel_rfl) ?_ (fun hHeld => ?_)
              · exact HS.out _ (below_drewN bb 1)
              replace bb := below_drewN bb 1
              change Below _ _ wr.drew at bb
              generalize hw0 : wr.drew = W0 at hHeld bb ⊢
              clear hw0
              refine wpAnyH_take (i := 0) (v := ?_) (by simp only [List.getElem?_toArray]; rfl) (by kernel_rfl) (by kernel_rfl) (by kernel_rfl) (by exact fun _ _ _ h => h) (Or.inl ⟨by rfl, ?_⟩) (by assumption) ?_
              rotate_left 1
              · intro w hSw; (try dsimp only at hSw); go_simp; try with_reducible rfl
              try conv => arg 8; simp only [Act.put, List.setIfInBounds_toArray, List.set_cons_zero, List.set_cons_succ]
              refine wpAnyH_take (i := 1) (v := ?_) (by simp only [List.getElem?_toArray]; rfl) (by kernel_rfl) (by kernel_rfl) (by kernel_rfl) (by exact fun _ _ _ h => h) (Or.inl ⟨by rfl, ?_⟩) (by assumption) ?_
              rotate_left 1
              · intro w hSw; (try dsimp only at hSw); go_simp; try with_reducible rfl
              try conv => arg 8; simp only [Act.put, List.setIfInBounds_toArray, List.set_cons_zero, List.set_cons_succ]
              refine wpAnyH_take (i := 3) (v := ?_) (by simp only [List.getElem?_toArray]; rfl) (by kernel_rfl) (by kernel_rfl) (by kernel_rfl) (by exact fun _ _ _ h => h) (Or.inl ⟨by rfl, ?_⟩) (by assumption) ?_
              rotate_left 1
              · intro w hSw; (try dsimp only at hSw); go_simp; try with_reducible rfl
              try conv => arg 8; simp only [Act.put, List.setIfInBounds_toArray, List.set_cons_zero, List.set_cons_succ]
              refine wpAnyH_take (i := 4) (v := ?_) (by simp only [List.getElem?_toArray]; rfl) (by kernel_rfl) (by kernel_rfl) (by kernel_rfl) (by exact fun _ _ _ h => h) (Or.inl ⟨by rfl, ?_⟩) (by assumption) ?_
              rotate_left 1
              · intro w hSw; (try dsimp only at hSw); go_simp; try with_reducible rfl
              try conv => arg 8; simp only [Act.put, List.setIfInBounds_toArray, List.set_cons_zero, List.set_cons_succ]
              refine wpAnyH_ready (rs := [2]) (by kernel_rfl) (by simp) ?_
              refine AllReadyH.cons (by simp only [List.getElem?_toArray]; rfl) (fun K hK => ?_) AllReadyH.nil
              refine wanted_pos (by kernel_rfl) ?_
              go_simp
              clear hHeld
              go_at_call 19
              (with_reducible refine (HBa.out _ bb).mono ?_)
              rintro e V1 ⟨rfl, bn⟩
              go_wp2_with fail
              refine hK.out _ _ ?_ (fun hHeld => ?_)
              · exact HS.out _ (bb.trans (bn.mono bb.size))
              clear hK K
              try conv => arg 8; simp only [Act.put, List.setIfInBounds_toArray, List.set_cons_zero, List.set_cons_succ]
              replace bb := bb.trans (bn.mono bb.size)
              clear bn
              refine wpAnyH_ready (rs := [5]) (by kernel_rfl) (by simp) ?_
              refine AllReadyH.cons (by simp only [List.getElem?_toArray]; rfl) (fun K hK => ?_) AllReadyH.nil
              refine wanted_pos (by kernel_rfl) ?_
              go_simp
              clear hHeld
              go_at_call 19
              (with_reducible refine (HBb.out _ bb).mono ?_)
              rintro e V2 ⟨rfl, bn⟩
              go_wp2_with fail
              refine hK.out _ _ ?_ (fun hHeld => ?_)
              · exact HS.out _ (bb.trans (bn.mono bb.size))
              clear hK K
              try conv => arg 8; simp only [Act.put, List.setIfInBounds_toArray, List.set_cons_zero, List.set_cons_succ]
              replace bb := bb.trans (bn.mono bb.size)
              clear bn
              refine wpAnyH_take (i := 6) (v := ?_) (by simp only [List.getElem?_toArray]; rfl) (by kernel_rfl) (by kernel_rfl) (by kernel_rfl) (by exact fun _ _ _ h => h) (Or.inl ⟨by rfl, ?_⟩) (by assumption) ?_
              rotate_left 1
              · intro w hSw; (try dsimp only at hSw); go_simp; try with_reducible rfl
              try conv => arg 8; simp only [Act.put, List.setIfInBounds_toArray, List.set_cons_zero, List.set_cons_succ]
              refine wpAnyH_take (i := 7) (v := ?_) (by simp only [List.getElem?_toArray]; rfl) (by kernel_rfl) (by kernel_rfl) (by kernel_rfl) (by exact fun _ _ _ h => h) (Or.inl ⟨by rfl, ?_⟩) (by assumption) ?_
              rotate_left 1
              · intro w hSw; (try dsimp only at hSw); go_simp; try with_reducible rfl
              try conv => arg 8; simp only [Act.put, List.setIfInBounds_toArray, List.set_cons_zero, List.set_cons_succ]
              refine wpAnyH_take (i := 8) (v := undef) (by simp only [List.getElem?_toArray]; rfl) (by kernel_rfl) (by kernel_rfl) (by kernel_rfl) (by exact fun _ _ _ h => h) (Or.inr ⟨by rfl, rfl⟩) (by assumption) ?_
              try conv => arg 8; simp only [Act.put, List.setIfInBounds_toArray, List.set_cons_zero, List.set_cons_succ]
              refine wpAnyH_take (i := 9) (v := undef) (by simp only [List.getElem?_toArray]; rfl) (by kernel_rfl) (by kernel_rfl) (by kernel_rfl) (by exact fun _ _ _ h => h) (Or.inr ⟨by rfl, rfl⟩) (by assumption) ?_
              try conv => arg 8; simp only [Act.put, List.setIfInBounds_toArray, List.set_cons_zero, List.set_cons_succ]
              refine wpAnyH_take (i := 10) (v := undef) (by simp only [List.getElem?_toArray]; rfl) (by kernel_rfl) (by kernel_rfl) (by kernel_rfl) (by exact fun _ _ _ h => h) (Or.inr ⟨by rfl, rfl⟩) (by assumption) ?_
              try conv => arg 8; simp only [Act.put, List.setIfInBounds_toArray, List.set_cons_zero, List.set_cons_succ]
              refine wpAnyH_take (i := 11) (v := undef) (by simp only [List.getElem?_toArray]; rfl) (by kernel_rfl) (by kernel_rfl) (by kernel_rfl) (by exact fun _ _ _ h => h) (Or.inr ⟨by rfl, rfl⟩) (by assumption) ?_
              try conv => arg 8; simp only [Act.put, List.setIfInBounds_toArray, List.set_cons_zero, List.set_cons_succ]
              refine wpAnyH_take (i := 12) (v := undef) (by simp only [List.getElem?_toArray]; rfl) (by kernel_rfl) (by kernel_rfl) (by kernel_rfl) (by exact fun _ _ _ h => h) (Or.inr ⟨by rfl, rfl⟩) (by assumption) ?_
              try conv => arg 8; simp only [Act.put, List.setIfInBounds_toArray, List.set_cons_zero, List.set_cons_succ]
              refine wpAnyH_take (i := 13) (v := undef) (by simp only [List.getElem?_toArray]; rfl) (by kernel_rfl) (by kernel_rfl) (by kernel_rfl) (by exact fun _ _ _ h => h) (Or.inr ⟨by rfl, rfl⟩) (by assumption) ?_
              try conv => arg 8; simp only [Act.put, List.setIfInBounds_toArray, List.set_cons_zero, List.set_cons_succ]
              refine wpAnyH_take (i := 14) (v := undef) (by simp only [List.getElem?_toArray]; rfl) (by kernel_rfl) (by kernel_rfl) (by kernel_rfl) (by exact fun _ _ _ h => h) (Or.inr ⟨by rfl, rfl⟩) (by assumption) ?_
              try conv => arg 8; simp only [Act.put, List.setIfInBounds_toArray, List.set_cons_zero, List.set_cons_succ]
              refine wpAnyH_take (i := 15) (v := ?_) (by simp only [List.getElem?_toArray]; rfl) (by kernel_rfl) (by kernel_rfl) (by kernel_rfl) (by exact fun _ _ _ h => h) (Or.inl ⟨by rfl, ?_⟩) (by assumption) ?_
              rotate_left 1
              · intro w hSw; (try dsimp only at hSw); go_simp; try with_reducible rfl
              try conv => arg 8; simp only [Act.put, List.setIfInBounds_toArray, List.set_cons_zero, List.set_cons_succ]
              refine wpAnyH_take (i := 16) (v := ?_) (by simp only [List.getElem?_toArray]; rfl) (by kernel_rfl) (by kernel_rfl) (by kernel_rfl) (by exact fun _ _ _ h => h) (Or.inl ⟨by rfl, ?_⟩) (by assumption) ?_
              rotate_left 1
              · intro w hSw; (try dsimp only at hSw); go_simp; try with_reducible rfl
              try conv => arg 8; simp only [Act.put, List.setIfInBounds_toArray, List.set_cons_zero, List.set_cons_succ]
              refine wpAnyH_done (by kernel_rfl) ?_ _
              clear HS
              replace bwr := bwr.trans (bb.mono bwr.size)
              have kF := KF3.out.below bb KF3.out.lt
              have kB := KB3.out.below bb KB3.out.lt
              have v0 := box_cells kF 0 rfl
              have v1 := box_cells kF 1 rfl
              have v2 := box_cells kF 2 rfl
              have v3 := box_cells kF 3 rfl
              have v4 := box_cells kF 4 rfl
              have v5 := box_cells kF 5 rfl
              have v6 := box_cells kF 6 rfl
              have v7 := box_cells kF 7 rfl
              have v8 := box_cells kF 8 rfl
              have c0'' := box_cells kB 0 rfl
              have c1'' := box_cells kB 1 rfl
              have c2'' := box_cells kB 2 rfl
              have c3'' := box_cells kB 3 rfl
              have c4'' := box_cells kB 4 rfl
              have HDD := Lib.hid (HDO.out _ bb)
              clear hHeld a0 a1 a2 a3 a4 c0' c1' c2' c3' c4' HDO
              go_wp2_with fail
              refine HDD.out.mono ?_
              rintro e w12 ⟨bn, bz, rfl, hbz⟩
              obtain rfl : bz = false := by
                cases bz with
                | false => rfl
                | true => exact absurd (HND.out (hbz.1 rfl)) (by intro h; exact hpn h.1)
              replace bwr := below_call bwr bn
              go_wp2
              go_ret
              exact ⟨rfl, bwr⟩








end Go.Proofs.YtgcmedkaadagmaaDoor
