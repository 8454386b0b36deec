/- Walks: the document's examples. -/
import Derived.Test.YtbjcbcdccekbkaaGreatA13
namespace Go.Proofs.YtbjcbcdccekbkaaGreat
open Go.RowKit Go.Shelf

theorem demo_sm : SmF demoF := by
  intro lk hlk
  simp [demoF] at hlk
  rcases hlk with rfl | rfl | rfl
  · exact ⟨by simp, fun r hr => by simp at hr⟩
  · exact ⟨by simp, fun r hr => by simp at hr⟩
  · refine ⟨by simp, fun r hr => ?_⟩
    simp at hr
    subst hr
    unfold SmR
    simp
theorem demo_l : attachL w64 demoF 0 8 [⟨0, 0, 0, 10, 0, 0⟩, ⟨1, 0, 0, 4, 0, 0⟩] = [⟨0, 0, 0, 10, 0, 0⟩, ⟨1, 0, 0, 0, -6, 7⟩] := by decide +kernel
theorem demo_m : attachL w64 demoF 1 7 [⟨2, 0, 0, 10, 0, 0⟩, ⟨2, 0, 0, 10, 0, 0⟩] = [⟨2, 0, 0, 7, 0, 0⟩, ⟨2, 0, 0, 10, 0, -2⟩] := by decide +kernel
theorem demo_p : attachAll w64 demoF 2 [⟨0, 0, 0, 10, 0, 0⟩, ⟨1, 0, 0, 4, 0, 0⟩] = [⟨0, 0, 0, 13, 0, 0⟩, ⟨1, 0, 0, 4, 0, 0⟩] := by decide +kernel
theorem demo_a : anchorL demoF 2 3 0 = some (1, 3) := by decide +kernel
theorem demo_b : anchorL demoF 9 3 0 = none := by decide +kernel
theorem demo_w : widthL w64 [⟨0, 0, 0, 13, 0, 0⟩, ⟨1, 0, 0, 4, 0, 0⟩] = 17 := by decide +kernel

theorem two_items {w : World} {base n c : Nat} {A : Option Addr} {x y : Itm} (h : Ow 57 6 w base A n c (itc [x, y])) : n = 2 ∧ ∃ g, A = some ⟨g, 0, none⟩ ∧ g < w.heap.size := by
  have hl := h.len
  rw [itc_len] at hl
  have hn : n = 2 := by simp at hl; omega
  obtain ⟨g, h1, _, h2⟩ := h.form (by omega)
  exact ⟨hn, g, h1, h2⟩
theorem items_new (w : World) (x y : Itm) : RdI (w.alloc (.cells #[.int .i64 x.g, .int .i64 x.c, .int .i64 x.f, .int .i64 x.a, .int .i64 x.x, .int .i64 x.y, .int .i64 y.g, .int .i64 y.c, .int .i64 y.f, .int .i64 y.a, .int .i64 y.x, .int .i64 y.y] 57)) (lo (w.alloc (.cells #[.int .i64 x.g, .int .i64 x.c, .int .i64 x.f, .int .i64 x.a, .int .i64 x.x, .int .i64 x.y, .int .i64 y.g, .int .i64 y.c, .int .i64 y.f, .int .i64 y.a, .int .i64 y.x, .int .i64 y.y] 57)).heap.size) (some ⟨w.heap.size, 0, none⟩) 2 [x, y] :=
  sle_bk (Bk.new _ _ _) (by show w.heap.size < _; simp) _ rfl fun i z hz => by
    match i, hz with
    | 0, hz => injection hz with hz; subst hz; exact ⟨_, rfl, fun j v hv => by match j, hv with | 0, hv => exact hv | 1, hv => exact hv | 2, hv => exact hv | 3, hv => exact hv | 4, hv => exact hv | 5, hv => exact hv⟩
    | 1, hz => injection hz with hz; subst hz; exact ⟨_, rfl, fun j v hv => by match j, hv with | 0, hv => exact hv | 1, hv => exact hv | 2, hv => exact hv | 3, hv => exact hv | 4, hv => exact hv | 5, hv => exact hv⟩

/-- The font lies in a variable. -/
theorem font_cells {w : World} {g : Nat} {f : FV} (kf : Bk w g 31 f.cells) : w.cell? ⟨g, 0, none⟩ = some (.int .i64 f.u0) ∧ w.cell? ⟨g, 1, none⟩ = some (.slice f.ga f.gn f.gc) ∧ w.cell? ⟨g, 2, none⟩ = some (.slice f.ca f.cn f.cc) ∧ w.cell? ⟨g, 3, none⟩ = some (.slice f.la f.ln f.lc) ∧ w.cell? ⟨g, 4, none⟩ = some (.slice f.a4 f.n4 f.c4) ∧ w.cell? ⟨g, 5, none⟩ = some (.slice f.a5 f.n5 f.c5) ∧ w.cell? ⟨g, 6, none⟩ = some (.slice f.a6 f.n6 f.c6) ∧ w.cell? ⟨g, 7, none⟩ = some (.slice f.a7 f.n7 f.c7) ∧ w.cell? ⟨g, 8, none⟩ = some (.slice f.a8 f.n8 f.c8) := by
  refine ⟨?_, ?_, ?_, ?_, ?_, ?_, ?_, ?_, ?_⟩
  · have := kf.cell 0; simpa using this
  · have := kf.cell 1; simpa using this
  · have := kf.cell 2; simpa using this
  · have := kf.cell 3; simpa using this
  · have := kf.cell 4; simpa using this
  · have := kf.cell 5; simpa using this
  · have := kf.cell 6; simpa using this
  · have := kf.cell 7; simpa using this
  · have := kf.cell 8; simpa using this
theorem Bk.call {w w' : World} {g t : Nat} {cs : Array Value} (h : Bk w g t cs) (hb : Below w.heap.size w w') : Bk w' g t cs := h.below hb h.lt

set_option maxRecDepth 100000 in
set_option maxHeartbeats 4000000 in
theorem hung_c (w : World) : Calls Tryz.prog 6 #[] w fun e w' => e = .returned (.bool true) ∧ Below w.heap.size w w' := by
  go_enter Tryz.func6, Tryz.ntmps6
  go_wp2_with fail
  refine (font_c w).mono ?_
  rintro e w1 ⟨f, rfl, hf1, b1⟩
  unfold FV.cells
  have kf2 := Bk.new w1 31 f.cells
  have b2 := below_lit _ _ b1 (.cells f.cells 31)
  have hf2 := hf1.call ((Below.refl _ w1).alloc (Nat.le_refl _) (.cells f.cells 31))
  unfold FV.cells at kf2 b2 hf2
  go_wp2_with fail
  generalize hW2 : w1.alloc (.cells #[.int .i64 f.u0, .slice f.ga f.gn f.gc, .slice f.ca f.cn f.cc, .slice f.la f.ln f.lc, .slice f.a4 f.n4 f.c4, .slice f.a5 f.n5 f.c5, .slice f.a6 f.n6 f.c6, .slice f.a7 f.n7 f.c7, .slice f.a8 f.n8 f.c8] 31) = W2 at kf2 b2 hf2 ⊢
  have hsz : w1.heap.size + 1 = W2.heap.size := by rw [← hW2]; simp
  rw [hsz]
  clear hsz hW2 hf1 b1
  generalize w1.heap.size = Bf at *
  have hbm : Below W2.heap.size W2 (W2.alloc (.cells #[.int .i64 0, .int .i64 0, .int .i64 0, .int .i64 10, .int .i64 0, .int .i64 0, .int .i64 1, .int .i64 0, .int .i64 0, .int .i64 4, .int .i64 0, .int .i64 0] 57)) := (Below.refl _ _).alloc (Nat.le_refl _) _
  have HC := Lib.hid (aMarks_c f demoF 0 _ 2 2 _ _ (hf2.call hbm) (items_new W2 ⟨0, 0, 0, 10, 0, 0⟩ ⟨1, 0, 0, 4, 0, 0⟩) (by omega))
  rw [demo_l] at HC
  unfold FV.cells at HC
  refine HC.out.mono ?_
  rintro e w3 ⟨A3, n3, c3, rfl, o3, b3⟩
  clear HC
  have b3' : Below W2.heap.size W2 w3 := hbm.trans (b3.mono hbm.size)
  have kf3 := kf2.call b3'
  have hf3 := hf2.call b3'
  have bw3 : Below w.heap.size w w3 := below_call b2 b3'
  obtain ⟨rfl, g3, rfl, _⟩ := two_items o3
  clear hbm b3 b3' kf2 hf2 b2
  obtain ⟨y0, y1, y2, y3, y4, y5, y6, y7, y8⟩ := font_cells kf3
  go_wp2_with fail
  clear y0 y1 y2 y3 y4 y5 y6 y7 y8
  have hbm : Below w3.heap.size w3 (w3.alloc (.cells #[.int .i64 2, .int .i64 0, .int .i64 0, .int .i64 10, .int .i64 0, .int .i64 0, .int .i64 2, .int .i64 0, .int .i64 0, .int .i64 10, .int .i64 0, .int .i64 0] 57)) := (Below.refl _ _).alloc (Nat.le_refl _) _
  have HC := Lib.hid (aCursive_c f demoF 1 _ 2 2 _ _ (hf3.call hbm) (items_new w3 ⟨2, 0, 0, 10, 0, 0⟩ ⟨2, 0, 0, 10, 0, 0⟩) (by omega))
  rw [demo_m] at HC
  unfold FV.cells at HC
  refine HC.out.mono ?_
  rintro e w4 ⟨A4, n4, c4, rfl, o4, b4⟩
  clear HC
  have b4' : Below w3.heap.size w3 w4 := hbm.trans (b4.mono hbm.size)
  have kf4 := kf3.call b4'
  have hf4 := hf3.call b4'
  have o34 := o3.call b4'
  have bw4 : Below w.heap.size w w4 := below_call bw3 b4'
  obtain ⟨rfl, g4, rfl, _⟩ := two_items o4
  clear hbm b4 b4' kf3 hf3 bw3 o3
  obtain ⟨y0, y1, y2, y3, y4, y5, y6, y7, y8⟩ := font_cells kf4
  go_wp2_with fail
  clear y0 y1 y2 y3 y4 y5 y6 y7 y8
  have hbm : Below w4.heap.size w4 (w4.alloc (.cells #[.int .i64 0, .int .i64 0, .int .i64 0, .int .i64 10, .int .i64 0, .int .i64 0, .int .i64 1, .int .i64 0, .int .i64 0, .int .i64 4, .int .i64 0, .int .i64 0] 57)) := (Below.refl _ _).alloc (Nat.le_refl _) _
  have HC := Lib.hid (aApply_c f demoF 2 _ 2 2 _ _ (hf4.call hbm) (items_new w4 ⟨0, 0, 0, 10, 0, 0⟩ ⟨1, 0, 0, 4, 0, 0⟩) (by omega) demo_sm)
  rw [demo_p] at HC
  unfold FV.cells at HC
  refine HC.out.mono ?_
  rintro e w5 ⟨A5, n5, c5, rfl, o5, b5⟩
  clear HC
  have b5' : Below w4.heap.size w4 w5 := hbm.trans (b5.mono hbm.size)
  have kf5 := kf4.call b5'
  have hf5 := hf4.call b5'
  have o35 := o34.call b5'
  have o45 := o4.call b5'
  have bw5 : Below w.heap.size w w5 := below_call bw4 b5'
  obtain ⟨rfl, g5, rfl, _⟩ := two_items o5
  clear hbm b5 b5' kf4 hf4 bw4 o34 o4
  obtain ⟨y0, y1, y2, y3, y4, y5, y6, y7, y8⟩ := font_cells kf5
  go_wp2_with fail
  clear y0 y1 y2 y3 y4 y5 y6 y7 y8
  have HC := Lib.hid (anchor_c f demoF 2 3 0 w5 hf5)
  rw [demo_a] at HC
  unfold FV.cells ancV at HC
  refine HC.out.mono ?_
  rintro e w6 ⟨rfl, b6⟩
  clear HC
  have kf6 := kf5.call b6
  have hf6 := hf5.call b6
  have o36 := o35.call b6
  have o46 := o45.call b6
  have o56 := o5.call b6
  have bw6 : Below w.heap.size w w6 := below_call bw5 b6
  clear b6 kf5 hf5 bw5 o35 o45 o5
  obtain ⟨y0, y1, y2, y3, y4, y5, y6, y7, y8⟩ := font_cells kf6
  dsimp only
  go_wp2_with fail
  clear y0 y1 y2 y3 y4 y5 y6 y7 y8
  have HC := Lib.hid (anchor_c f demoF 9 3 0 w6 hf6)
  rw [demo_b] at HC
  unfold FV.cells ancV at HC
  refine HC.out.mono ?_
  rintro e w7 ⟨rfl, b7⟩
  clear HC
  have o37 := o36.call b7
  have o47 := o46.call b7
  have o57 := o56.call b7
  have bw7 : Below w.heap.size w w7 := below_call bw6 b7
  clear b7 kf6 hf6 bw6 o36 o46 o56
  dsimp only
  have l0 := o37.cell (j := 6) (x := .int .i64 1) rfl
  have l1 := o37.cell (j := 7) (x := .int .i64 0) rfl
  have l2 := o37.cell (j := 8) (x := .int .i64 0) rfl
  have l3 := o37.cell (j := 9) (x := .int .i64 0) rfl
  have l4 := o37.cell (j := 10) (x := .int .i64 (-6)) rfl
  have l5 := o37.cell (j := 11) (x := .int .i64 7) rfl
  have m3 := o47.cell (j := 3) (x := .int .i64 7) rfl
  have n0 := o47.cell (j := 6) (x := .int .i64 2) rfl
  have n1 := o47.cell (j := 7) (x := .int .i64 0) rfl
  have n2 := o47.cell (j := 8) (x := .int .i64 0) rfl
  have n3' := o47.cell (j := 9) (x := .int .i64 10) rfl
  have n4' := o47.cell (j := 10) (x := .int .i64 0) rfl
  have n5' := o47.cell (j := 11) (x := .int .i64 (-2)) rfl
  have hpg := item_guard
  have e1 := fun w0 => item_eq w0 ⟨1, 0, 0, 0, -6, 7⟩ ⟨1, 0, 0, 0, -6, 7⟩
  have e2 := fun w0 => item_eq w0 ⟨2, 0, 0, 10, 0, -2⟩ ⟨2, 0, 0, 10, 0, -2⟩
  simp only [decide_true] at e1 e2
  have HC := Lib.hid (width_c (some ⟨g5, 0, none⟩) 2 c5 _ w7 o57.rdI (by omega))
  rw [demo_w] at HC
  go_wp2_with fail
  refine HC.out.mono ?_
  rintro e w8 ⟨rfl, b8⟩
  clear HC
  go_wp2
  go_ret
  exact ⟨rfl, below_call bw7 b8⟩

end Go.Proofs.YtbjcbcdccekbkaaGreat
