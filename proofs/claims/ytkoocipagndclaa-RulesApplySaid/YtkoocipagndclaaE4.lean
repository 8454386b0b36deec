/- Walks: the document's examples. -/
import Derived.Test.YtkoocipagndclaaE3
import Derived.Handy
import Derived.Deep.DeepCutAuto
namespace Go.Proofs.Ytkoocipagndclaa
open Go.RowKit Go.Shelf

theorem wanted_pos {c A B : Prop} [Decidable c] (h : c) (a : A) : if c then A else B := by rw [if_pos h]; exact a
structure Wrap (G : Prop) : Prop where
  out : G
structure Cont (C : Prop) : Prop where
  go : C
theorem later {C G : Prop} (h : Cont C → G) (c : C) : Wrap G := ⟨h ⟨c⟩⟩
theorem rd_lit (w : World) (xs : List Int) : Rd (w.alloc (.cells (ic xs).toArray 3)) (lo (w.alloc (.cells (ic xs).toArray 3)).heap.size) (some ⟨w.heap.size, 0, none⟩) xs.length xs := by
  refine ⟨rfl, fun _ => ⟨w.heap.size, 0, rfl, by unfold lo; simp, fun i x hx => ⟨[.int .i64 x], rfl, fun j v hv => ?_⟩⟩⟩
  cases j with
  | succ j => simp at hv
  | zero =>
    simp at hv; subst hv
    rw [show 0 + i * 1 + 0 = i by omega, World.cell?_alloc_new]
    simp [ic, hx]
/-- A run of these glyphs. -/
def RdG' (w : World) (A : Option Addr) (n : Nat) (ys : List Int) : Prop := ∃ xs, RdI w (lo w.heap.size) A n xs ∧ xs.map (·.g) = ys
theorem RdG'.call {w w' : World} {A : Option Addr} {n : Nat} {ys : List Int} (h : RdG' w A n ys) (b : Below w.heap.size w w') : RdG' w' A n ys := by
  obtain ⟨xs, h1, h2⟩ := h; exact ⟨xs, h1.call b, h2⟩
def P4 (w : World) (gp : Nat) : Prop := w.cell? ⟨gp, 3, none⟩ = some (.int .i64 5) ∧ w.cell? ⟨gp, 9, none⟩ = some (.int .i64 5) ∧ w.cell? ⟨gp, 15, none⟩ = some (.int .i64 0)
theorem eg_match (f : FV) (A : Option Addr) (c : Nat) (w : World) (hf : IsF w (lo w.heap.size) f egF) (hI : RdI w (lo w.heap.size) A 3 (runL [0, 4, 1])) :
    Calls Try.prog 15 #[.agg #[.int .i64 f.u0, .slice f.ga f.gn f.gc, .slice f.ca f.cn f.cc, .slice f.la f.ln f.lc, .slice f.a4 f.n4 f.c4, .slice f.a5 f.n5 f.c5, .slice f.a6 f.n6 f.c6, .slice f.a7 f.n7 f.c7, .slice f.a8 f.n8 f.c8], .int .i64 0, .slice A 3 c, .int .i64 0, .slice none 0 0] w fun e w' => ∃ PA pc, e = .returned (.tuple #[.int .i64 0, .slice PA 2 pc]) ∧ Rd w' (lo w'.heap.size) PA 2 [0, 2] ∧ Below w.heap.size w w' := by
  have h := rMatch_c f egF 0 A 3 c (runL [0, 4, 1]) 0 none 0 0 [] w hf hI SlE.nil (by omega) (by omega) eg_sm.rch
  rw [eg_m] at h
  refine h.mono ?_
  rintro e w' ⟨PA, pc, rfl, p1, p2, b⟩
  exact ⟨PA, pc, rfl, p1.mono (fun b hb => by obtain ⟨cs, t, fr, h, _⟩ := hb; exact (Array.getElem?_eq_some_iff.1 h).1) (Kept.refl _ _), b⟩
theorem eg_apply (f : FV) (k : Int) (A : Option Addr) (n c : Nat) (xs ys : List Int) (w : World) (hf : IsF w (lo w.heap.size) f egF) (hI : RdI w (lo w.heap.size) A n (runL xs)) (hn : n ≤ 100) (hy : (applyL w64 egF k (runL xs) []).map (·.g) = ys) :
    Calls Try.prog 18 #[.agg #[.int .i64 f.u0, .slice f.ga f.gn f.gc, .slice f.ca f.cn f.cc, .slice f.la f.ln f.lc, .slice f.a4 f.n4 f.c4, .slice f.a5 f.n5 f.c5, .slice f.a6 f.n6 f.c6, .slice f.a7 f.n7 f.c7, .slice f.a8 f.n8 f.c8], .int .i64 k, .slice A n c, .slice none 0 0] w fun e w' => ∃ A' n' c', e = .returned (.slice A' n' c') ∧ (RdG' w' A' n' ys) ∧ n' ≤ 1000 ∧ Below w.heap.size w w' := by
  refine (apply_all f egF k A n c (runL xs) none 0 0 [] w hf hI SlE.nil (by omega) (by have := hI.len; omega) eg_sm eg_so).mono ?_
  rintro e w' ⟨A', n', c', rfl, o, b⟩
  have hl := apply_len w64 egF k (runL xs) []
  exact ⟨A', n', c', rfl, ⟨_, o.rdI, hy⟩, by have := o.rdI.len; have := hI.len; omega, b⟩
theorem eg_apply6 (f : FV) (A : Option Addr) (c : Nat) (w : World) (hf : IsF w (lo w.heap.size) f egF) (hI : RdI w (lo w.heap.size) A 4 (runL [0, 0, 0, 1])) :
    Calls Try.prog 18 #[.agg #[.int .i64 f.u0, .slice f.ga f.gn f.gc, .slice f.ca f.cn f.cc, .slice f.la f.ln f.lc, .slice f.a4 f.n4 f.c4, .slice f.a5 f.n5 f.c5, .slice f.a6 f.n6 f.c6, .slice f.a7 f.n7 f.c7, .slice f.a8 f.n8 f.c8], .int .i64 6, .slice A 4 c, .slice none 0 0] w fun e w' => ∃ gp c', e = .returned (.slice (some ⟨gp, 0, none⟩) 4 c') ∧ P4 w' gp ∧ Below w.heap.size w w' := by
  refine (apply_all f egF 6 A 4 c (runL [0, 0, 0, 1]) none 0 0 [] w hf hI SlE.nil (by omega) (by have := hI.len; omega) eg_sm eg_so).mono ?_
  rintro e w' ⟨A', n', c', rfl, o, b⟩
  rw [eg_6] at o
  have hn : n' = 4 := by have := o.rdI.len; simpa using this.symm
  subst hn
  obtain ⟨g, rfl, _, _⟩ := o.form (by omega)
  exact ⟨g, c', rfl, ⟨o.cell (j := 3) rfl, o.cell (j := 9) rfl, o.cell (j := 15) rfl⟩, b⟩
theorem eg_glyphs (A : Option Addr) (n c : Nat) (ys : List Int) (A' : Option Addr) (m d : Nat) (w : World) (h : RdG' w A n ys) (h' : Rd w (lo w.heap.size) A' m ys) (hn : n ≤ 1000) (hm : m ≤ 1000) :
    Calls Try.prog 32 #[.slice A n c, .slice A' m d] w fun e w' => e = .returned (.bool true) ∧ Below w.heap.size w w' := by
  obtain ⟨xs, h1, h2⟩ := h
  refine (glyphs_c A n c xs A' m d ys w h1 h' (by omega) (by omega)).mono ?_
  rintro e w' ⟨rfl, b⟩
  exact ⟨by rw [h2]; simp, b⟩

set_option maxRecDepth 100000 in
set_option maxHeartbeats 16000000 in
theorem ruled_c (w : World) : Calls Try.prog 17 #[] w fun e w' => e = .returned (.bool true) ∧ Below w.heap.size w w' := by
  go_enter Try.func17, Try.ntmps17
  go_wp2_with fail
  refine (font_c w).mono ?_
  rintro e w1 ⟨f, rfl, hf1, b1⟩
  unfold FV.cells
  have kf2 := Bk.new w1 31 f.cells
  have b2 := below_lit _ _ b1 (.cells f.cells 31)
  have hf2 := hf1.call ((Below.refl _ w1).alloc (Nat.le_refl _) (.cells f.cells 31))
  unfold FV.cells at kf2 b2 hf2
  go_upto_region 2 with fail
  rename_i hK0
  have HK1 := Lib.hid hK0
  clear hK0
  generalize w1.alloc (.cells #[.int .i64 f.u0, .slice f.ga f.gn f.gc, .slice f.ca f.cn f.cc, .slice f.la f.ln f.lc, .slice f.a4 f.n4 f.c4, .slice f.a5 f.n5 f.c5, .slice f.a6 f.n6 f.c6, .slice f.a7 f.n7 f.c7, .slice f.a8 f.n8 f.c8] 31) = w2 at kf2 b2 hf2 ⊢
  clear hf1 b1
  generalize w1.heap.size = bf at kf2 ⊢
  have HS := Lib.hid fun (W : World) (b : Below w2.heap.size w2 W) => (show W.cell? ⟨bf, 0, none⟩ = some (.int .i64 f.u0) ∧ W.cell? ⟨bf, 1, none⟩ = some (.slice f.ga f.gn f.gc) ∧ W.cell? ⟨bf, 2, none⟩ = some (.slice f.ca f.cn f.cc) ∧ W.cell? ⟨bf, 3, none⟩ = some (.slice f.la f.ln f.lc) ∧ W.cell? ⟨bf, 4, none⟩ = some (.slice f.a4 f.n4 f.c4) ∧ W.cell? ⟨bf, 5, none⟩ = some (.slice f.a5 f.n5 f.c5) ∧ W.cell? ⟨bf, 6, none⟩ = some (.slice f.a6 f.n6 f.c6) ∧ W.cell? ⟨bf, 7, none⟩ = some (.slice f.a7 f.n7 f.c7) ∧ W.cell? ⟨bf, 8, none⟩ = some (.slice f.a8 f.n8 f.c8) from font_cells (kf2.call b))
  have bb := Below.refl w2.heap.size w2
  refine wp_region_held_drew (S := fun w' => w'.cell? ⟨bf, 0, none⟩ = some (.int .i64 f.u0) ∧ w'.cell? ⟨bf, 1, none⟩ = some (.slice f.ga f.gn f.gc) ∧ w'.cell? ⟨bf, 2, none⟩ = some (.slice f.ca f.cn f.cc) ∧ w'.cell? ⟨bf, 3, none⟩ = some (.slice f.la f.ln f.lc) ∧ w'.cell? ⟨bf, 4, none⟩ = some (.slice f.a4 f.n4 f.c4) ∧ w'.cell? ⟨bf, 5, none⟩ = some (.slice f.a5 f.n5 f.c5) ∧ w'.cell? ⟨bf, 6, none⟩ = some (.slice f.a6 f.n6 f.c6) ∧ w'.cell? ⟨bf, 7, none⟩ = some (.slice f.a7 f.n7 f.c7) ∧ w'.cell? ⟨bf, 8, none⟩ = some (.slice f.a8 f.n8 f.c8)) (by kernel_rfl) ?_ (fun hHeld => ?_)
  · exact HS.out _ (below_drewN bb 1)
  replace bb := below_drewN bb 1
  change Below _ _ w2.drew at bb
  generalize hw0 : w2.drew = W0 at hHeld bb ⊢
  clear hw0
  refine wpAnyH_take (i := 0) (v := ?_) (by simp only [List.getElem?_toArray, List.getElem?_cons_zero]; rfl) (by kernel_rfl) (by kernel_rfl) (by kernel_rfl) (by exact fun _ _ _ h => h) (Or.inl ⟨by rfl, ?_⟩) (by assumption) ?_
  rotate_left 1
  · intro w hSw; (try dsimp only at hSw); go_simp; try with_reducible rfl
  try conv => arg 8; simp only [Act.put, List.setIfInBounds_toArray, List.set_cons_zero, List.set_cons_succ]
  refine wpAnyH_ready (rs := [1]) (by kernel_rfl) (by simp) ?_
  refine AllReadyH.cons (by simp only [List.getElem?_toArray, List.getElem?_cons_succ, List.getElem?_cons_zero]; rfl) (fun K hK => ?_) AllReadyH.nil
  refine wanted_pos (by kernel_rfl) ?_
  go_simp
  clear hHeld
  refine hK.out _ _ ?_ (fun hHeld => ?_)
  · exact HS.out _ (below_lit _ _ bb _)
  clear hK K
  try conv => arg 8; simp only [Act.put, List.setIfInBounds_toArray, List.set_cons_zero, List.set_cons_succ]
  have bn : Below W0.heap.size W0 (W0.alloc (.cells #[.int .i64 0, .int .i64 4, .int .i64 1] 3)) := (Below.refl _ _).alloc (Nat.le_refl _) _
  replace bb := below_lit _ _ bb (.cells #[.int .i64 0, .int .i64 4, .int .i64 1] 3)
  have q1 : Rd (W0.alloc (.cells #[.int .i64 0, .int .i64 4, .int .i64 1] 3)) (lo (W0.alloc (.cells #[.int .i64 0, .int .i64 4, .int .i64 1] 3)).heap.size) (some ⟨W0.heap.size, 0, none⟩) 3 [0, 4, 1] := rd_lit W0 [0, 4, 1]
  clear bn
  generalize W0.alloc (.cells #[.int .i64 0, .int .i64 4, .int .i64 1] 3) = W1 at *
  generalize W0.heap.size = g1 at *
  refine wpAnyH_ready (rs := [2]) (by kernel_rfl) (by simp) ?_
  refine AllReadyH.cons (by simp only [List.getElem?_toArray, List.getElem?_cons_succ, List.getElem?_cons_zero]; rfl) (fun K hK => ?_) AllReadyH.nil
  refine wanted_pos (by kernel_rfl) ?_
  go_simp
  clear hHeld
  go_at_call 31
  (with_reducible refine (run_c _ _ _ [0, 4, 1] W1 q1 (by omega)).mono ?_)
  rintro e W2 ⟨A1, c1, rfl, o1, bn⟩
  go_wp2_with fail
  refine hK.out _ _ ?_ (fun hHeld => ?_)
  · exact HS.out _ (bb.trans (bn.mono bb.size))
  clear hK K
  try conv => arg 8; simp only [Act.put, List.setIfInBounds_toArray, List.set_cons_zero, List.set_cons_succ]
  replace bb := bb.trans (bn.mono bb.size)
  clear bn q1
  refine wpAnyH_ready (rs := [3]) (by kernel_rfl) (by simp) ?_
  refine AllReadyH.cons (by simp only [List.getElem?_toArray, List.getElem?_cons_succ, List.getElem?_cons_zero]; rfl) (fun K hK => ?_) AllReadyH.nil
  refine wanted_pos (by kernel_rfl) ?_
  go_simp
  clear hHeld
  go_at_call 15
  (with_reducible refine (eg_match f A1 c1 W2 (hf2.call bb) o1.rdI).mono ?_)
  rintro e W3 ⟨PA, pc, rfl, p1, bn⟩
  go_wp2_with fail
  refine hK.out _ _ ?_ (fun hHeld => ?_)
  · exact HS.out _ (bb.trans (bn.mono bb.size))
  clear hK K
  try conv => arg 8; simp only [Act.put, List.setIfInBounds_toArray, List.set_cons_zero, List.set_cons_succ]
  replace bb := bb.trans (bn.mono bb.size)
  clear bn o1
  refine wpAnyH_take (i := 4) (v := ?_) (by simp only [List.getElem?_toArray, List.getElem?_cons_succ, List.getElem?_cons_zero]; rfl) (by kernel_rfl) (by kernel_rfl) (by kernel_rfl) (by exact fun _ _ _ h => h) (Or.inl ⟨by rfl, ?_⟩) (by assumption) ?_
  rotate_left 1
  · intro w hSw; (try dsimp only at hSw); go_simp; try with_reducible rfl
  try conv => arg 8; simp only [Act.put, List.setIfInBounds_toArray, List.set_cons_zero, List.set_cons_succ]
  refine wpAnyH_take (i := 5) (v := ?_) (by simp only [List.getElem?_toArray, List.getElem?_cons_succ, List.getElem?_cons_zero]; rfl) (by kernel_rfl) (by kernel_rfl) (by kernel_rfl) (by exact fun _ _ _ h => h) (Or.inl ⟨by rfl, ?_⟩) (by assumption) ?_
  rotate_left 1
  · intro w hSw; (try dsimp only at hSw); go_simp; try with_reducible rfl
  try conv => arg 8; simp only [Act.put, List.setIfInBounds_toArray, List.set_cons_zero, List.set_cons_succ]
  refine wpAnyH_take (i := 6) (v := ?_) (by simp only [List.getElem?_toArray, List.getElem?_cons_succ, List.getElem?_cons_zero]; rfl) (by kernel_rfl) (by kernel_rfl) (by kernel_rfl) (by exact fun _ _ _ h => h) (Or.inl ⟨by rfl, ?_⟩) (by assumption) ?_
  rotate_left 1
  · intro w hSw; (try dsimp only at hSw); go_simp; try with_reducible rfl
  try conv => arg 8; simp only [Act.put, List.setIfInBounds_toArray, List.set_cons_zero, List.set_cons_succ]
  refine wpAnyH_take (i := 7) (v := ?_) (by simp only [List.getElem?_toArray, List.getElem?_cons_succ, List.getElem?_cons_zero]; rfl) (by kernel_rfl) (by kernel_rfl) (by kernel_rfl) (by exact fun _ _ _ h => h) (Or.inl ⟨by rfl, ?_⟩) (by assumption) ?_
  rotate_left 1
  · intro w hSw; (try dsimp only at hSw); go_simp; try with_reducible rfl
  try conv => arg 8; simp only [Act.put, List.setIfInBounds_toArray, List.set_cons_zero, List.set_cons_succ]
  refine wpAnyH_take (i := 8) (v := ?_) (by simp only [List.getElem?_toArray, List.getElem?_cons_succ, List.getElem?_cons_zero]; rfl) (by kernel_rfl) (by kernel_rfl) (by kernel_rfl) (by exact fun _ _ _ h => h) (Or.inl ⟨by rfl, ?_⟩) (by assumption) ?_
  rotate_left 1
  · intro w hSw; (try dsimp only at hSw); go_simp; try with_reducible rfl
  try conv => arg 8; simp only [Act.put, List.setIfInBounds_toArray, List.set_cons_zero, List.set_cons_succ]
  refine wpAnyH_done (by kernel_rfl) ?_ _
  have hK1 := HK1.out
  go_upto_region 3 with fail
  rename_i hK0
  have HK0 := Lib.hid hK0
  clear hK0 HK1
  refine wp_region_held_drew (S := fun w' => w'.cell? ⟨bf, 0, none⟩ = some (.int .i64 f.u0) ∧ w'.cell? ⟨bf, 1, none⟩ = some (.slice f.ga f.gn f.gc) ∧ w'.cell? ⟨bf, 2, none⟩ = some (.slice f.ca f.cn f.cc) ∧ w'.cell? ⟨bf, 3, none⟩ = some (.slice f.la f.ln f.lc) ∧ w'.cell? ⟨bf, 4, none⟩ = some (.slice f.a4 f.n4 f.c4) ∧ w'.cell? ⟨bf, 5, none⟩ = some (.slice f.a5 f.n5 f.c5) ∧ w'.cell? ⟨bf, 6, none⟩ = some (.slice f.a6 f.n6 f.c6) ∧ w'.cell? ⟨bf, 7, none⟩ = some (.slice f.a7 f.n7 f.c7) ∧ w'.cell? ⟨bf, 8, none⟩ = some (.slice f.a8 f.n8 f.c8)) (by kernel_rfl) ?_ (fun hHeld => ?_)
  · exact HS.out _ (below_drewN bb 1)
  replace bb := below_drewN bb 1
  change Below _ _ W3.drew at bb
  replace p1 := p1.call (below_drewN (Below.refl W3.heap.size W3) 1)
  change Rd W3.drew (lo W3.drew.heap.size) _ _ _ at p1
  generalize hw0 : W3.drew = W0 at hHeld bb p1 ⊢
  clear hw0
  refine wpAnyH_take (i := 0) (v := ?_) (by simp only [List.getElem?_toArray, List.getElem?_cons_zero]; rfl) (by kernel_rfl) (by kernel_rfl) (by kernel_rfl) (by exact fun _ _ _ h => h) (Or.inl ⟨by rfl, ?_⟩) (by assumption) ?_
  rotate_left 1
  · intro w hSw; (try dsimp only at hSw); go_simp; try with_reducible rfl
  try conv => arg 8; simp only [Act.put, List.setIfInBounds_toArray, List.set_cons_zero, List.set_cons_succ]
  refine wpAnyH_ready (rs := [1]) (by kernel_rfl) (by simp) ?_
  refine AllReadyH.cons (by simp only [List.getElem?_toArray, List.getElem?_cons_succ, List.getElem?_cons_zero]; rfl) (fun K hK => ?_) AllReadyH.nil
  refine wanted_pos (by kernel_rfl) ?_
  go_simp
  clear hHeld
  refine hK.out _ _ ?_ (fun hHeld => ?_)
  · exact HS.out _ (below_lit _ _ bb _)
  clear hK K
  try conv => arg 8; simp only [Act.put, List.setIfInBounds_toArray, List.set_cons_zero, List.set_cons_succ]
  have bn : Below W0.heap.size W0 (W0.alloc (.cells #[.int .i64 0, .int .i64 0, .int .i64 0, .int .i64 1] 3)) := (Below.refl _ _).alloc (Nat.le_refl _) _
  replace p1 := p1.call bn
  replace bb := below_lit _ _ bb (.cells #[.int .i64 0, .int .i64 0, .int .i64 0, .int .i64 1] 3)
  have q1 : Rd (W0.alloc (.cells #[.int .i64 0, .int .i64 0, .int .i64 0, .int .i64 1] 3)) (lo (W0.alloc (.cells #[.int .i64 0, .int .i64 0, .int .i64 0, .int .i64 1] 3)).heap.size) (some ⟨W0.heap.size, 0, none⟩) 4 [0, 0, 0, 1] := rd_lit W0 [0, 0, 0, 1]
  clear bn
  generalize W0.alloc (.cells #[.int .i64 0, .int .i64 0, .int .i64 0, .int .i64 1] 3) = W1 at *
  generalize W0.heap.size = g1 at *
  refine wpAnyH_ready (rs := [2]) (by kernel_rfl) (by simp) ?_
  refine AllReadyH.cons (by simp only [List.getElem?_toArray, List.getElem?_cons_succ, List.getElem?_cons_zero]; rfl) (fun K hK => ?_) AllReadyH.nil
  refine wanted_pos (by kernel_rfl) ?_
  go_simp
  clear hHeld
  go_at_call 31
  (with_reducible refine (run_c _ _ _ [0, 0, 0, 1] W1 q1 (by omega)).mono ?_)
  rintro e W2 ⟨A1, c1, rfl, o1, bn⟩
  go_wp2_with fail
  refine hK.out _ _ ?_ (fun hHeld => ?_)
  · exact HS.out _ (bb.trans (bn.mono bb.size))
  clear hK K
  try conv => arg 8; simp only [Act.put, List.setIfInBounds_toArray, List.set_cons_zero, List.set_cons_succ]
  replace p1 := p1.call bn
  replace bb := bb.trans (bn.mono bb.size)
  clear bn q1
  refine wpAnyH_ready (rs := [3]) (by kernel_rfl) (by simp) ?_
  refine AllReadyH.cons (by simp only [List.getElem?_toArray, List.getElem?_cons_succ, List.getElem?_cons_zero]; rfl) (fun K hK => ?_) AllReadyH.nil
  refine wanted_pos (by kernel_rfl) ?_
  go_simp
  clear hHeld
  go_at_call 18
  (with_reducible refine (eg_apply6 f A1 c1 W2 (hf2.call bb) o1.rdI).mono ?_)
  rintro e W3 ⟨gp, c2, rfl, o2, bn⟩
  go_wp2_with fail
  refine hK.out _ _ ?_ (fun hHeld => ?_)
  · exact HS.out _ (bb.trans (bn.mono bb.size))
  clear hK K
  try conv => arg 8; simp only [Act.put, List.setIfInBounds_toArray, List.set_cons_zero, List.set_cons_succ]
  replace p1 := p1.call bn
  replace bb := bb.trans (bn.mono bb.size)
  clear bn o1
  refine wpAnyH_take (i := 4) (v := ?_) (by simp only [List.getElem?_toArray, List.getElem?_cons_succ, List.getElem?_cons_zero]; rfl) (by kernel_rfl) (by kernel_rfl) (by kernel_rfl) (by exact fun _ _ _ h => h) (Or.inl ⟨by rfl, ?_⟩) (by assumption) ?_
  rotate_left 1
  · intro w hSw; (try dsimp only at hSw); go_simp; try with_reducible rfl
  try conv => arg 8; simp only [Act.put, List.setIfInBounds_toArray, List.set_cons_zero, List.set_cons_succ]
  refine wpAnyH_done (by kernel_rfl) ?_ _
  have hK2 := HK0.out
  clear HK0
  have hf := hf2.call bb
  have bw := below_call b2 bb
  obtain ⟨pb, po, rfl, _, hpc⟩ := p1.pos (by omega)
  obtain ⟨cs, rfl, hcc⟩ := hpc 1 2 rfl
  have y1 := hcc 0 _ rfl
  simp only [Nat.mul_one, Nat.add_zero] at y1
  obtain ⟨a1, a2, a3⟩ := o2
  have kf3 := kf2.call bb
  have HS := Lib.hid fun (W : World) (b : Below W3.heap.size W3 W) => (show W.cell? ⟨bf, 0, none⟩ = some (.int .i64 f.u0) ∧ W.cell? ⟨bf, 1, none⟩ = some (.slice f.ga f.gn f.gc) ∧ W.cell? ⟨bf, 2, none⟩ = some (.slice f.ca f.cn f.cc) ∧ W.cell? ⟨bf, 3, none⟩ = some (.slice f.la f.ln f.lc) ∧ W.cell? ⟨bf, 4, none⟩ = some (.slice f.a4 f.n4 f.c4) ∧ W.cell? ⟨bf, 5, none⟩ = some (.slice f.a5 f.n5 f.c5) ∧ W.cell? ⟨bf, 6, none⟩ = some (.slice f.a6 f.n6 f.c6) ∧ W.cell? ⟨bf, 7, none⟩ = some (.slice f.a7 f.n7 f.c7) ∧ W.cell? ⟨bf, 8, none⟩ = some (.slice f.a8 f.n8 f.c8) ∧ W.cell? ⟨pb, po + 1, none⟩ = some (.int .i64 2) ∧ W.cell? ⟨gp, 3, none⟩ = some (.int .i64 5) ∧ W.cell? ⟨gp, 9, none⟩ = some (.int .i64 5) ∧ W.cell? ⟨gp, 15, none⟩ = some (.int .i64 0) from by
    obtain ⟨z0, z1, z2, z3, z4, z5, z6, z7, z8⟩ := font_cells (kf3.call b)
    exact ⟨z0, z1, z2, z3, z4, z5, z6, z7, z8, cell_call y1 b, cell_call a1 b, cell_call a2 b, cell_call a3 b⟩)
  clear hpc hcc p1 kf2 kf3 hf2 b2 bb
  have bb := Below.refl W3.heap.size W3
  go_upto_region 6 with fail
  rename_i hK0
  have HK0 := Lib.hid hK0
  clear hK0
  refine wp_region_held_drew (S := fun w' => w'.cell? ⟨bf, 0, none⟩ = some (.int .i64 f.u0) ∧ w'.cell? ⟨bf, 1, none⟩ = some (.slice f.ga f.gn f.gc) ∧ w'.cell? ⟨bf, 2, none⟩ = some (.slice f.ca f.cn f.cc) ∧ w'.cell? ⟨bf, 3, none⟩ = some (.slice f.la f.ln f.lc) ∧ w'.cell? ⟨bf, 4, none⟩ = some (.slice f.a4 f.n4 f.c4) ∧ w'.cell? ⟨bf, 5, none⟩ = some (.slice f.a5 f.n5 f.c5) ∧ w'.cell? ⟨bf, 6, none⟩ = some (.slice f.a6 f.n6 f.c6) ∧ w'.cell? ⟨bf, 7, none⟩ = some (.slice f.a7 f.n7 f.c7) ∧ w'.cell? ⟨bf, 8, none⟩ = some (.slice f.a8 f.n8 f.c8) ∧ w'.cell? ⟨pb, po + 1, none⟩ = some (.int .i64 2) ∧ w'.cell? ⟨gp, 3, none⟩ = some (.int .i64 5) ∧ w'.cell? ⟨gp, 9, none⟩ = some (.int .i64 5) ∧ w'.cell? ⟨gp, 15, none⟩ = some (.int .i64 0)) (by kernel_rfl) ?_ (fun hHeld => ?_)
  · exact HS.out _ (below_drewN bb 1)
  replace bb := below_drewN bb 1
  change Below _ _ W3.drew at bb
  generalize hw0 : W3.drew = W0 at hHeld bb ⊢
  clear hw0
  refine wpAnyH_take (i := 0) (v := ?_) (by simp only [List.getElem?_toArray]; rfl) (by kernel_rfl) (by kernel_rfl) (by kernel_rfl) (by exact fun _ _ _ h => h) (Or.inl ⟨by rfl, ?_⟩) (by assumption) ?_
  rotate_left 1
  · intro w hSw; (try dsimp only at hSw); go_simp; try with_reducible rfl
  try conv => arg 8; simp only [Act.put, List.setIfInBounds_toArray, List.set_cons_zero, List.set_cons_succ]
  refine wpAnyH_take (i := 1) (v := ?_) (by simp only [List.getElem?_toArray]; rfl) (by kernel_rfl) (by kernel_rfl) (by kernel_rfl) (by exact fun _ _ _ h => h) (Or.inl ⟨by rfl, ?_⟩) (by assumption) ?_
  rotate_left 1
  · intro w hSw; (try dsimp only at hSw); go_simp; try with_reducible rfl
  try conv => arg 8; simp only [Act.put, List.setIfInBounds_toArray, List.set_cons_zero, List.set_cons_succ]
  refine wpAnyH_take (i := 2) (v := ?_) (by simp only [List.getElem?_toArray]; rfl) (by kernel_rfl) (by kernel_rfl) (by kernel_rfl) (by exact fun _ _ _ h => h) (Or.inl ⟨by rfl, ?_⟩) (by assumption) ?_
  rotate_left 1
  · intro w hSw; (try dsimp only at hSw); go_simp; try with_reducible rfl
  try conv => arg 8; simp only [Act.put, List.setIfInBounds_toArray, List.set_cons_zero, List.set_cons_succ]
  refine wpAnyH_take (i := 3) (v := ?_) (by simp only [List.getElem?_toArray]; rfl) (by kernel_rfl) (by kernel_rfl) (by kernel_rfl) (by exact fun _ _ _ h => h) (Or.inl ⟨by rfl, ?_⟩) (by assumption) ?_
  rotate_left 1
  · intro w hSw; (try dsimp only at hSw); go_simp; try with_reducible rfl
  try conv => arg 8; simp only [Act.put, List.setIfInBounds_toArray, List.set_cons_zero, List.set_cons_succ]
  refine wpAnyH_take (i := 4) (v := ?_) (by simp only [List.getElem?_toArray]; rfl) (by kernel_rfl) (by kernel_rfl) (by kernel_rfl) (by exact fun _ _ _ h => h) (Or.inl ⟨by rfl, ?_⟩) (by assumption) ?_
  rotate_left 1
  · intro w hSw; (try dsimp only at hSw); go_simp; try with_reducible rfl
  try conv => arg 8; simp only [Act.put, List.setIfInBounds_toArray, List.set_cons_zero, List.set_cons_succ]
  refine wpAnyH_take (i := 5) (v := ?_) (by simp only [List.getElem?_toArray]; rfl) (by kernel_rfl) (by kernel_rfl) (by kernel_rfl) (by exact fun _ _ _ h => h) (Or.inl ⟨by rfl, ?_⟩) (by assumption) ?_
  rotate_left 1
  · intro w hSw; (try dsimp only at hSw); go_simp; try with_reducible rfl
  try conv => arg 8; simp only [Act.put, List.setIfInBounds_toArray, List.set_cons_zero, List.set_cons_succ]
  refine wpAnyH_take (i := 6) (v := ?_) (by simp only [List.getElem?_toArray]; rfl) (by kernel_rfl) (by kernel_rfl) (by kernel_rfl) (by exact fun _ _ _ h => h) (Or.inl ⟨by rfl, ?_⟩) (by assumption) ?_
  rotate_left 1
  · intro w hSw; (try dsimp only at hSw); go_simp; try with_reducible rfl
  try conv => arg 8; simp only [Act.put, List.setIfInBounds_toArray, List.set_cons_zero, List.set_cons_succ]
  refine wpAnyH_take (i := 7) (v := ?_) (by simp only [List.getElem?_toArray]; rfl) (by kernel_rfl) (by kernel_rfl) (by kernel_rfl) (by exact fun _ _ _ h => h) (Or.inl ⟨by rfl, ?_⟩) (by assumption) ?_
  rotate_left 1
  · intro w hSw; (try dsimp only at hSw); go_simp; try with_reducible rfl
  try conv => arg 8; simp only [Act.put, List.setIfInBounds_toArray, List.set_cons_zero, List.set_cons_succ]
  refine wpAnyH_take (i := 8) (v := ?_) (by simp only [List.getElem?_toArray]; rfl) (by kernel_rfl) (by kernel_rfl) (by kernel_rfl) (by exact fun _ _ _ h => h) (Or.inl ⟨by rfl, ?_⟩) (by assumption) ?_
  rotate_left 1
  · intro w hSw; (try dsimp only at hSw); go_simp; try with_reducible rfl
  try conv => arg 8; simp only [Act.put, List.setIfInBounds_toArray, List.set_cons_zero, List.set_cons_succ]
  refine wpAnyH_take (i := 9) (v := ?_) (by simp only [List.getElem?_toArray]; rfl) (by kernel_rfl) (by kernel_rfl) (by kernel_rfl) (by exact fun _ _ _ h => h) (Or.inl ⟨by rfl, ?_⟩) (by assumption) ?_
  rotate_left 1
  · intro w hSw; (try dsimp only at hSw); go_simp; try with_reducible rfl
  try conv => arg 8; simp only [Act.put, List.setIfInBounds_toArray, List.set_cons_zero, List.set_cons_succ]
  revert hHeld
  revert bb
  refine Wrap.out ?_
  apply later
  · intro cont bb hHeld
    refine wpAnyH_ready (rs := [10, 13]) (by kernel_rfl) (by simp) ?_
    refine AllReadyH.cons (by simp only [List.getElem?_toArray]; rfl) (fun K hK => ?_) (AllReadyH.cons (by simp only [List.getElem?_toArray]; rfl) (fun K hK => ?_) AllReadyH.nil)
    · refine wanted_pos (by kernel_rfl) ?_
      go_simp
      clear hHeld
      refine hK.out _ _ ?_ (fun hHeld => ?_)
      · exact HS.out _ (below_lit _ _ bb _)
      clear hK K
      try conv => arg 8; simp only [Act.put, List.setIfInBounds_toArray, List.set_cons_zero, List.set_cons_succ]
      have bn : Below W0.heap.size W0 (W0.alloc (.cells #[.int .i64 0, .int .i64 4, .int .i64 1] 3)) := (Below.refl _ _).alloc (Nat.le_refl _) _
      replace bb := below_lit _ _ bb (.cells #[.int .i64 0, .int .i64 4, .int .i64 1] 3)
      have q1 : Rd (W0.alloc (.cells #[.int .i64 0, .int .i64 4, .int .i64 1] 3)) (lo (W0.alloc (.cells #[.int .i64 0, .int .i64 4, .int .i64 1] 3)).heap.size) (some ⟨W0.heap.size, 0, none⟩) 3 [0, 4, 1] := rd_lit W0 [0, 4, 1]
      clear bn
      generalize W0.alloc (.cells #[.int .i64 0, .int .i64 4, .int .i64 1] 3) = Wb at *
      generalize W0.heap.size = g1 at *
      refine wpAnyH_ready (rs := [11, 13]) (by kernel_rfl) (by simp) ?_
      refine AllReadyH.cons (by simp only [List.getElem?_toArray]; rfl) (fun K hK => ?_) (AllReadyH.cons (by simp only [List.getElem?_toArray]; rfl) (fun K hK => ?_) AllReadyH.nil)
      · refine wanted_pos (by kernel_rfl) ?_
        go_simp
        clear hHeld
        go_at_call 31
        (with_reducible refine (run_c _ _ _ [0, 4, 1] Wb q1 (by omega)).mono ?_)
        rintro e Wc ⟨A1, c1, rfl, o1, bn⟩
        go_wp2_with fail
        refine hK.out _ _ ?_ (fun hHeld => ?_)
        · exact HS.out _ (bb.trans (bn.mono bb.size))
        clear hK K
        try conv => arg 8; simp only [Act.put, List.setIfInBounds_toArray, List.set_cons_zero, List.set_cons_succ]
        replace bb := bb.trans (bn.mono bb.size)
        clear bn q1
        refine wpAnyH_ready (rs := [12, 13]) (by kernel_rfl) (by simp) ?_
        refine AllReadyH.cons (by simp only [List.getElem?_toArray]; rfl) (fun K hK => ?_) (AllReadyH.cons (by simp only [List.getElem?_toArray]; rfl) (fun K hK => ?_) AllReadyH.nil)
        · refine wanted_pos (by kernel_rfl) ?_
          go_simp
          clear hHeld
          go_at_call 18
          (with_reducible refine (eg_apply f 0 A1 3 c1 _ _ Wc (hf.call bb) o1.rdI (by omega) eg_0).mono ?_)
          rintro e Wd ⟨A2, n2, c2, rfl, o2, hn2, bn⟩
          go_wp2_with fail
          refine hK.out _ _ ?_ (fun hHeld => ?_)
          · exact HS.out _ (bb.trans (bn.mono bb.size))
          clear hK K
          try conv => arg 8; simp only [Act.put, List.setIfInBounds_toArray, List.set_cons_zero, List.set_cons_succ]
          replace bb := bb.trans (bn.mono bb.size)
          clear bn o1
          refine wpAnyH_ready (rs := [13]) (by kernel_rfl) (by simp) ?_
          refine AllReadyH.cons (by simp only [List.getElem?_toArray]; rfl) (fun K hK => ?_) AllReadyH.nil
          refine wanted_pos (by kernel_rfl) ?_
          go_simp
          clear hHeld
          refine hK.out _ _ ?_ (fun hHeld => ?_)
          · exact HS.out _ (below_lit _ _ bb _)
          clear hK K
          try conv => arg 8; simp only [Act.put, List.setIfInBounds_toArray, List.set_cons_zero, List.set_cons_succ]
          have bn : Below Wd.heap.size Wd (Wd.alloc (.cells #[.int .i64 2, .int .i64 4] 3)) := (Below.refl _ _).alloc (Nat.le_refl _) _
          replace bb := below_lit _ _ bb (.cells #[.int .i64 2, .int .i64 4] 3)
          have q2 : Rd (Wd.alloc (.cells #[.int .i64 2, .int .i64 4] 3)) (lo (Wd.alloc (.cells #[.int .i64 2, .int .i64 4] 3)).heap.size) (some ⟨Wd.heap.size, 0, none⟩) 2 [2, 4] := rd_lit Wd [2, 4]
          replace o2 := o2.call bn
          clear bn
          generalize Wd.alloc (.cells #[.int .i64 2, .int .i64 4] 3) = We at *
          generalize Wd.heap.size = g2 at *
          refine wpAnyH_ready (rs := [14]) (by kernel_rfl) (by simp) ?_
          refine AllReadyH.cons (by simp only [List.getElem?_toArray]; rfl) (fun K hK => ?_) AllReadyH.nil
          refine wanted_pos (by kernel_rfl) ?_
          go_simp
          clear hHeld
          go_at_call 32
          (with_reducible refine (eg_glyphs A2 n2 c2 _ _ 2 2 We o2 q2 hn2 (by omega)).mono ?_)
          rintro e Wz ⟨rfl, bn⟩
          go_wp2_with fail
          refine hK.out _ _ ?_ (fun hHeld => ?_)
          · exact HS.out _ (bb.trans (bn.mono bb.size))
          clear hK K
          try conv => arg 8; simp only [Act.put, List.setIfInBounds_toArray, List.set_cons_zero, List.set_cons_succ]
          replace bb := bb.trans (bn.mono bb.size)
          clear bn q2 o2
          generalize Value.slice (some ⟨g1, 0, none⟩) 3 3 = v1
          generalize Value.slice A1 3 c1 = v2
          generalize Value.slice A2 n2 c2 = v3
          generalize Value.slice (some ⟨g2, 0, none⟩) 2 2 = v4
          clear hn2
          revert hHeld
          revert bb
          revert v4
          revert v3
          revert v2
          revert v1
          revert Wz
          exact cont.go
        · refine wanted_pos (by kernel_rfl) ?_
          go_simp
          clear hHeld
          refine hK.out _ _ ?_ (fun hHeld => ?_)
          · exact HS.out _ (below_lit _ _ bb _)
          clear hK K
          try conv => arg 8; simp only [Act.put, List.setIfInBounds_toArray, List.set_cons_zero, List.set_cons_succ]
          have bn : Below Wc.heap.size Wc (Wc.alloc (.cells #[.int .i64 2, .int .i64 4] 3)) := (Below.refl _ _).alloc (Nat.le_refl _) _
          replace o1 := o1.call bn
          replace bb := below_lit _ _ bb (.cells #[.int .i64 2, .int .i64 4] 3)
          have q2 : Rd (Wc.alloc (.cells #[.int .i64 2, .int .i64 4] 3)) (lo (Wc.alloc (.cells #[.int .i64 2, .int .i64 4] 3)).heap.size) (some ⟨Wc.heap.size, 0, none⟩) 2 [2, 4] := rd_lit Wc [2, 4]
          clear bn
          generalize Wc.alloc (.cells #[.int .i64 2, .int .i64 4] 3) = Wd at *
          generalize Wc.heap.size = g2 at *
          refine wpAnyH_ready (rs := [12]) (by kernel_rfl) (by simp) ?_
          refine AllReadyH.cons (by simp only [List.getElem?_toArray]; rfl) (fun K hK => ?_) AllReadyH.nil
          refine wanted_pos (by kernel_rfl) ?_
          go_simp
          clear hHeld
          go_at_call 18
          (with_reducible refine (eg_apply f 0 A1 3 c1 _ _ Wd (hf.call bb) o1.rdI (by omega) eg_0).mono ?_)
          rintro e We ⟨A2, n2, c2, rfl, o2, hn2, bn⟩
          go_wp2_with fail
          refine hK.out _ _ ?_ (fun hHeld => ?_)
          · exact HS.out _ (bb.trans (bn.mono bb.size))
          clear hK K
          try conv => arg 8; simp only [Act.put, List.setIfInBounds_toArray, List.set_cons_zero, List.set_cons_succ]
          replace q2 := q2.call bn
          replace bb := bb.trans (bn.mono bb.size)
          clear bn o1
          refine wpAnyH_ready (rs := [14]) (by kernel_rfl) (by simp) ?_
          refine AllReadyH.cons (by simp only [List.getElem?_toArray]; rfl) (fun K hK => ?_) AllReadyH.nil
          refine wanted_pos (by kernel_rfl) ?_
          go_simp
          clear hHeld
          go_at_call 32
          (with_reducible refine (eg_glyphs A2 n2 c2 _ _ 2 2 We o2 q2 hn2 (by omega)).mono ?_)
          rintro e Wz ⟨rfl, bn⟩
          go_wp2_with fail
          refine hK.out _ _ ?_ (fun hHeld => ?_)
          · exact HS.out _ (bb.trans (bn.mono bb.size))
          clear hK K
          try conv => arg 8; simp only [Act.put, List.setIfInBounds_toArray, List.set_cons_zero, List.set_cons_succ]
          replace bb := bb.trans (bn.mono bb.size)
          clear bn q2 o2
          generalize Value.slice (some ⟨g1, 0, none⟩) 3 3 = v1
          generalize Value.slice A1 3 c1 = v2
          generalize Value.slice A2 n2 c2 = v3
          generalize Value.slice (some ⟨g2, 0, none⟩) 2 2 = v4
          clear hn2
          revert hHeld
          revert bb
          revert v4
          revert v3
          revert v2
          revert v1
          revert Wz
          exact cont.go
      · refine wanted_pos (by kernel_rfl) ?_
        go_simp
        clear hHeld
        refine hK.out _ _ ?_ (fun hHeld => ?_)
        · exact HS.out _ (below_lit _ _ bb _)
        clear hK K
        try conv => arg 8; simp only [Act.put, List.setIfInBounds_toArray, List.set_cons_zero, List.set_cons_succ]
        have bn : Below Wb.heap.size Wb (Wb.alloc (.cells #[.int .i64 2, .int .i64 4] 3)) := (Below.refl _ _).alloc (Nat.le_refl _) _
        replace q1 := q1.call bn
        replace bb := below_lit _ _ bb (.cells #[.int .i64 2, .int .i64 4] 3)
        have q2 : Rd (Wb.alloc (.cells #[.int .i64 2, .int .i64 4] 3)) (lo (Wb.alloc (.cells #[.int .i64 2, .int .i64 4] 3)).heap.size) (some ⟨Wb.heap.size, 0, none⟩) 2 [2, 4] := rd_lit Wb [2, 4]
        clear bn
        generalize Wb.alloc (.cells #[.int .i64 2, .int .i64 4] 3) = Wc at *
        generalize Wb.heap.size = g2 at *
        refine wpAnyH_ready (rs := [11]) (by kernel_rfl) (by simp) ?_
        refine AllReadyH.cons (by simp only [List.getElem?_toArray]; rfl) (fun K hK => ?_) AllReadyH.nil
        refine wanted_pos (by kernel_rfl) ?_
        go_simp
        clear hHeld
        go_at_call 31
        (with_reducible refine (run_c _ _ _ [0, 4, 1] Wc q1 (by omega)).mono ?_)
        rintro e Wd ⟨A1, c1, rfl, o1, bn⟩
        go_wp2_with fail
        refine hK.out _ _ ?_ (fun hHeld => ?_)
        · exact HS.out _ (bb.trans (bn.mono bb.size))
        clear hK K
        try conv => arg 8; simp only [Act.put, List.setIfInBounds_toArray, List.set_cons_zero, List.set_cons_succ]
        replace q2 := q2.call bn
        replace bb := bb.trans (bn.mono bb.size)
        clear bn q1
        refine wpAnyH_ready (rs := [12]) (by kernel_rfl) (by simp) ?_
        refine AllReadyH.cons (by simp only [List.getElem?_toArray]; rfl) (fun K hK => ?_) AllReadyH.nil
        refine wanted_pos (by kernel_rfl) ?_
        go_simp
        clear hHeld
        go_at_call 18
        (with_reducible refine (eg_apply f 0 A1 3 c1 _ _ Wd (hf.call bb) o1.rdI (by omega) eg_0).mono ?_)
        rintro e We ⟨A2, n2, c2, rfl, o2, hn2, bn⟩
        go_wp2_with fail
        refine hK.out _ _ ?_ (fun hHeld => ?_)
        · exact HS.out _ (bb.trans (bn.mono bb.size))
        clear hK K
        try conv => arg 8; simp only [Act.put, List.setIfInBounds_toArray, List.set_cons_zero, List.set_cons_succ]
        replace q2 := q2.call bn
        replace bb := bb.trans (bn.mono bb.size)
        clear bn o1
        refine wpAnyH_ready (rs := [14]) (by kernel_rfl) (by simp) ?_
        refine AllReadyH.cons (by simp only [List.getElem?_toArray]; rfl) (fun K hK => ?_) AllReadyH.nil
        refine wanted_pos (by kernel_rfl) ?_
        go_simp
        clear hHeld
        go_at_call 32
        (with_reducible refine (eg_glyphs A2 n2 c2 _ _ 2 2 We o2 q2 hn2 (by omega)).mono ?_)
        rintro e Wz ⟨rfl, bn⟩
        go_wp2_with fail
        refine hK.out _ _ ?_ (fun hHeld => ?_)
        · exact HS.out _ (bb.trans (bn.mono bb.size))
        clear hK K
        try conv => arg 8; simp only [Act.put, List.setIfInBounds_toArray, List.set_cons_zero, List.set_cons_succ]
        replace bb := bb.trans (bn.mono bb.size)
        clear bn q2 o2
        generalize Value.slice (some ⟨g1, 0, none⟩) 3 3 = v1
        generalize Value.slice A1 3 c1 = v2
        generalize Value.slice A2 n2 c2 = v3
        generalize Value.slice (some ⟨g2, 0, none⟩) 2 2 = v4
        clear hn2
        revert hHeld
        revert bb
        revert v4
        revert v3
        revert v2
        revert v1
        revert Wz
        exact cont.go
    · refine wanted_pos (by kernel_rfl) ?_
      go_simp
      clear hHeld
      refine hK.out _ _ ?_ (fun hHeld => ?_)
      · exact HS.out _ (below_lit _ _ bb _)
      clear hK K
      try conv => arg 8; simp only [Act.put, List.setIfInBounds_toArray, List.set_cons_zero, List.set_cons_succ]
      have bn : Below W0.heap.size W0 (W0.alloc (.cells #[.int .i64 2, .int .i64 4] 3)) := (Below.refl _ _).alloc (Nat.le_refl _) _
      replace bb := below_lit _ _ bb (.cells #[.int .i64 2, .int .i64 4] 3)
      have q2 : Rd (W0.alloc (.cells #[.int .i64 2, .int .i64 4] 3)) (lo (W0.alloc (.cells #[.int .i64 2, .int .i64 4] 3)).heap.size) (some ⟨W0.heap.size, 0, none⟩) 2 [2, 4] := rd_lit W0 [2, 4]
      clear bn
      generalize W0.alloc (.cells #[.int .i64 2, .int .i64 4] 3) = Wb at *
      generalize W0.heap.size = g2 at *
      refine wpAnyH_ready (rs := [10]) (by kernel_rfl) (by simp) ?_
      refine AllReadyH.cons (by simp only [List.getElem?_toArray]; rfl) (fun K hK => ?_) AllReadyH.nil
      refine wanted_pos (by kernel_rfl) ?_
      go_simp
      clear hHeld
      refine hK.out _ _ ?_ (fun hHeld => ?_)
      · exact HS.out _ (below_lit _ _ bb _)
      clear hK K
      try conv => arg 8; simp only [Act.put, List.setIfInBounds_toArray, List.set_cons_zero, List.set_cons_succ]
      have bn : Below Wb.heap.size Wb (Wb.alloc (.cells #[.int .i64 0, .int .i64 4, .int .i64 1] 3)) := (Below.refl _ _).alloc (Nat.le_refl _) _
      replace q2 := q2.call bn
      replace bb := below_lit _ _ bb (.cells #[.int .i64 0, .int .i64 4, .int .i64 1] 3)
      have q1 : Rd (Wb.alloc (.cells #[.int .i64 0, .int .i64 4, .int .i64 1] 3)) (lo (Wb.alloc (.cells #[.int .i64 0, .int .i64 4, .int .i64 1] 3)).heap.size) (some ⟨Wb.heap.size, 0, none⟩) 3 [0, 4, 1] := rd_lit Wb [0, 4, 1]
      clear bn
      generalize Wb.alloc (.cells #[.int .i64 0, .int .i64 4, .int .i64 1] 3) = Wc at *
      generalize Wb.heap.size = g1 at *
      refine wpAnyH_ready (rs := [11]) (by kernel_rfl) (by simp) ?_
      refine AllReadyH.cons (by simp only [List.getElem?_toArray]; rfl) (fun K hK => ?_) AllReadyH.nil
      refine wanted_pos (by kernel_rfl) ?_
      go_simp
      clear hHeld
      go_at_call 31
      (with_reducible refine (run_c _ _ _ [0, 4, 1] Wc q1 (by omega)).mono ?_)
      rintro e Wd ⟨A1, c1, rfl, o1, bn⟩
      go_wp2_with fail
      refine hK.out _ _ ?_ (fun hHeld => ?_)
      · exact HS.out _ (bb.trans (bn.mono bb.size))
      clear hK K
      try conv => arg 8; simp only [Act.put, List.setIfInBounds_toArray, List.set_cons_zero, List.set_cons_succ]
      replace q2 := q2.call bn
      replace bb := bb.trans (bn.mono bb.size)
      clear bn q1
      refine wpAnyH_ready (rs := [12]) (by kernel_rfl) (by simp) ?_
      refine AllReadyH.cons (by simp only [List.getElem?_toArray]; rfl) (fun K hK => ?_) AllReadyH.nil
      refine wanted_pos (by kernel_rfl) ?_
      go_simp
      clear hHeld
      go_at_call 18
      (with_reducible refine (eg_apply f 0 A1 3 c1 _ _ Wd (hf.call bb) o1.rdI (by omega) eg_0).mono ?_)
      rintro e We ⟨A2, n2, c2, rfl, o2, hn2, bn⟩
      go_wp2_with fail
      refine hK.out _ _ ?_ (fun hHeld => ?_)
      · exact HS.out _ (bb.trans (bn.mono bb.size))
      clear hK K
      try conv => arg 8; simp only [Act.put, List.setIfInBounds_toArray, List.set_cons_zero, List.set_cons_succ]
      replace q2 := q2.call bn
      replace bb := bb.trans (bn.mono bb.size)
      clear bn o1
      refine wpAnyH_ready (rs := [14]) (by kernel_rfl) (by simp) ?_
      refine AllReadyH.cons (by simp only [List.getElem?_toArray]; rfl) (fun K hK => ?_) AllReadyH.nil
      refine wanted_pos (by kernel_rfl) ?_
      go_simp
      clear hHeld
      go_at_call 32
      (with_reducible refine (eg_glyphs A2 n2 c2 _ _ 2 2 We o2 q2 hn2 (by omega)).mono ?_)
      rintro e Wz ⟨rfl, bn⟩
      go_wp2_with fail
      refine hK.out _ _ ?_ (fun hHeld => ?_)
      · exact HS.out _ (bb.trans (bn.mono bb.size))
      clear hK K
      try conv => arg 8; simp only [Act.put, List.setIfInBounds_toArray, List.set_cons_zero, List.set_cons_succ]
      replace bb := bb.trans (bn.mono bb.size)
      clear bn q2 o2
      generalize Value.slice (some ⟨g1, 0, none⟩) 3 3 = v1
      generalize Value.slice A1 3 c1 = v2
      generalize Value.slice A2 n2 c2 = v3
      generalize Value.slice (some ⟨g2, 0, none⟩) 2 2 = v4
      clear hn2
      revert hHeld
      revert bb
      revert v4
      revert v3
      revert v2
      revert v1
      revert Wz
      exact cont.go
  intro W1 v1 v2 v3 v4 bb hHeld
  refine wpAnyH_take (i := 15) (v := ?_) (by simp only [List.getElem?_toArray]; rfl) (by kernel_rfl) (by kernel_rfl) (by kernel_rfl) (by exact fun _ _ _ h => h) (Or.inl ⟨by rfl, ?_⟩) (by assumption) ?_
  rotate_left 1
  · intro w hSw; (try dsimp only at hSw); go_simp; try with_reducible rfl
  try conv => arg 8; simp only [Act.put, List.setIfInBounds_toArray, List.set_cons_zero, List.set_cons_succ]
  refine wpAnyH_take (i := 16) (v := ?_) (by simp only [List.getElem?_toArray]; rfl) (by kernel_rfl) (by kernel_rfl) (by kernel_rfl) (by exact fun _ _ _ h => h) (Or.inl ⟨by rfl, ?_⟩) (by assumption) ?_
  rotate_left 1
  · intro w hSw; (try dsimp only at hSw); go_simp; try with_reducible rfl
  try conv => arg 8; simp only [Act.put, List.setIfInBounds_toArray, List.set_cons_zero, List.set_cons_succ]
  refine wpAnyH_take (i := 17) (v := ?_) (by simp only [List.getElem?_toArray]; rfl) (by kernel_rfl) (by kernel_rfl) (by kernel_rfl) (by exact fun _ _ _ h => h) (Or.inl ⟨by rfl, ?_⟩) (by assumption) ?_
  rotate_left 1
  · intro w hSw; (try dsimp only at hSw); go_simp; try with_reducible rfl
  try conv => arg 8; simp only [Act.put, List.setIfInBounds_toArray, List.set_cons_zero, List.set_cons_succ]
  revert hHeld
  revert bb
  refine Wrap.out ?_
  apply later
  · intro cont bb hHeld
    refine wpAnyH_ready (rs := [18, 21]) (by kernel_rfl) (by simp) ?_
    refine AllReadyH.cons (by simp only [List.getElem?_toArray]; rfl) (fun K hK => ?_) (AllReadyH.cons (by simp only [List.getElem?_toArray]; rfl) (fun K hK => ?_) AllReadyH.nil)
    · refine wanted_pos (by kernel_rfl) ?_
      go_simp
      clear hHeld
      refine hK.out _ _ ?_ (fun hHeld => ?_)
      · exact HS.out _ (below_lit _ _ bb _)
      clear hK K
      try conv => arg 8; simp only [Act.put, List.setIfInBounds_toArray, List.set_cons_zero, List.set_cons_succ]
      have bn : Below W1.heap.size W1 (W1.alloc (.cells #[.int .i64 0, .int .i64 1, .int .i64 0] 3)) := (Below.refl _ _).alloc (Nat.le_refl _) _
      replace bb := below_lit _ _ bb (.cells #[.int .i64 0, .int .i64 1, .int .i64 0] 3)
      have q1 : Rd (W1.alloc (.cells #[.int .i64 0, .int .i64 1, .int .i64 0] 3)) (lo (W1.alloc (.cells #[.int .i64 0, .int .i64 1, .int .i64 0] 3)).heap.size) (some ⟨W1.heap.size, 0, none⟩) 3 [0, 1, 0] := rd_lit W1 [0, 1, 0]
      clear bn
      generalize W1.alloc (.cells #[.int .i64 0, .int .i64 1, .int .i64 0] 3) = Wb at *
      generalize W1.heap.size = g1 at *
      refine wpAnyH_ready (rs := [19, 21]) (by kernel_rfl) (by simp) ?_
      refine AllReadyH.cons (by simp only [List.getElem?_toArray]; rfl) (fun K hK => ?_) (AllReadyH.cons (by simp only [List.getElem?_toArray]; rfl) (fun K hK => ?_) AllReadyH.nil)
      · refine wanted_pos (by kernel_rfl) ?_
        go_simp
        clear hHeld
        go_at_call 31
        (with_reducible refine (run_c _ _ _ [0, 1, 0] Wb q1 (by omega)).mono ?_)
        rintro e Wc ⟨A1, c1, rfl, o1, bn⟩
        go_wp2_with fail
        refine hK.out _ _ ?_ (fun hHeld => ?_)
        · exact HS.out _ (bb.trans (bn.mono bb.size))
        clear hK K
        try conv => arg 8; simp only [Act.put, List.setIfInBounds_toArray, List.set_cons_zero, List.set_cons_succ]
        replace bb := bb.trans (bn.mono bb.size)
        clear bn q1
        refine wpAnyH_ready (rs := [20, 21]) (by kernel_rfl) (by simp) ?_
        refine AllReadyH.cons (by simp only [List.getElem?_toArray]; rfl) (fun K hK => ?_) (AllReadyH.cons (by simp only [List.getElem?_toArray]; rfl) (fun K hK => ?_) AllReadyH.nil)
        · refine wanted_pos (by kernel_rfl) ?_
          go_simp
          clear hHeld
          go_at_call 18
          (with_reducible refine (eg_apply f 1 A1 3 c1 _ _ Wc (hf.call bb) o1.rdI (by omega) eg_1).mono ?_)
          rintro e Wd ⟨A2, n2, c2, rfl, o2, hn2, bn⟩
          go_wp2_with fail
          refine hK.out _ _ ?_ (fun hHeld => ?_)
          · exact HS.out _ (bb.trans (bn.mono bb.size))
          clear hK K
          try conv => arg 8; simp only [Act.put, List.setIfInBounds_toArray, List.set_cons_zero, List.set_cons_succ]
          replace bb := bb.trans (bn.mono bb.size)
          clear bn o1
          refine wpAnyH_ready (rs := [21]) (by kernel_rfl) (by simp) ?_
          refine AllReadyH.cons (by simp only [List.getElem?_toArray]; rfl) (fun K hK => ?_) AllReadyH.nil
          refine wanted_pos (by kernel_rfl) ?_
          go_simp
          clear hHeld
          refine hK.out _ _ ?_ (fun hHeld => ?_)
          · exact HS.out _ (below_lit _ _ bb _)
          clear hK K
          try conv => arg 8; simp only [Act.put, List.setIfInBounds_toArray, List.set_cons_zero, List.set_cons_succ]
          have bn : Below Wd.heap.size Wd (Wd.alloc (.cells #[.int .i64 0, .int .i64 0, .int .i64 1, .int .i64 0, .int .i64 0] 3)) := (Below.refl _ _).alloc (Nat.le_refl _) _
          replace bb := below_lit _ _ bb (.cells #[.int .i64 0, .int .i64 0, .int .i64 1, .int .i64 0, .int .i64 0] 3)
          have q2 : Rd (Wd.alloc (.cells #[.int .i64 0, .int .i64 0, .int .i64 1, .int .i64 0, .int .i64 0] 3)) (lo (Wd.alloc (.cells #[.int .i64 0, .int .i64 0, .int .i64 1, .int .i64 0, .int .i64 0] 3)).heap.size) (some ⟨Wd.heap.size, 0, none⟩) 5 [0, 0, 1, 0, 0] := rd_lit Wd [0, 0, 1, 0, 0]
          replace o2 := o2.call bn
          clear bn
          generalize Wd.alloc (.cells #[.int .i64 0, .int .i64 0, .int .i64 1, .int .i64 0, .int .i64 0] 3) = We at *
          generalize Wd.heap.size = g2 at *
          refine wpAnyH_ready (rs := [22]) (by kernel_rfl) (by simp) ?_
          refine AllReadyH.cons (by simp only [List.getElem?_toArray]; rfl) (fun K hK => ?_) AllReadyH.nil
          refine wanted_pos (by kernel_rfl) ?_
          go_simp
          clear hHeld
          go_at_call 32
          (with_reducible refine (eg_glyphs A2 n2 c2 _ _ 5 5 We o2 q2 hn2 (by omega)).mono ?_)
          rintro e Wz ⟨rfl, bn⟩
          go_wp2_with fail
          refine hK.out _ _ ?_ (fun hHeld => ?_)
          · exact HS.out _ (bb.trans (bn.mono bb.size))
          clear hK K
          try conv => arg 8; simp only [Act.put, List.setIfInBounds_toArray, List.set_cons_zero, List.set_cons_succ]
          replace bb := bb.trans (bn.mono bb.size)
          clear bn q2 o2
          generalize Value.slice (some ⟨g1, 0, none⟩) 3 3 = v1
          generalize Value.slice A1 3 c1 = v2
          generalize Value.slice A2 n2 c2 = v3
          generalize Value.slice (some ⟨g2, 0, none⟩) 5 5 = v4
          clear hn2
          revert hHeld
          revert bb
          revert v4
          revert v3
          revert v2
          revert v1
          revert Wz
          exact cont.go
        · refine wanted_pos (by kernel_rfl) ?_
          go_simp
          clear hHeld
          refine hK.out _ _ ?_ (fun hHeld => ?_)
          · exact HS.out _ (below_lit _ _ bb _)
          clear hK K
          try conv => arg 8; simp only [Act.put, List.setIfInBounds_toArray, List.set_cons_zero, List.set_cons_succ]
          have bn : Below Wc.heap.size Wc (Wc.alloc (.cells #[.int .i64 0, .int .i64 0, .int .i64 1, .int .i64 0, .int .i64 0] 3)) := (Below.refl _ _).alloc (Nat.le_refl _) _
          replace o1 := o1.call bn
          replace bb := below_lit _ _ bb (.cells #[.int .i64 0, .int .i64 0, .int .i64 1, .int .i64 0, .int .i64 0] 3)
          have q2 : Rd (Wc.alloc (.cells #[.int .i64 0, .int .i64 0, .int .i64 1, .int .i64 0, .int .i64 0] 3)) (lo (Wc.alloc (.cells #[.int .i64 0, .int .i64 0, .int .i64 1, .int .i64 0, .int .i64 0] 3)).heap.size) (some ⟨Wc.heap.size, 0, none⟩) 5 [0, 0, 1, 0, 0] := rd_lit Wc [0, 0, 1, 0, 0]
          clear bn
          generalize Wc.alloc (.cells #[.int .i64 0, .int .i64 0, .int .i64 1, .int .i64 0, .int .i64 0] 3) = Wd at *
          generalize Wc.heap.size = g2 at *
          refine wpAnyH_ready (rs := [20]) (by kernel_rfl) (by simp) ?_
          refine AllReadyH.cons (by simp only [List.getElem?_toArray]; rfl) (fun K hK => ?_) AllReadyH.nil
          refine wanted_pos (by kernel_rfl) ?_
          go_simp
          clear hHeld
          go_at_call 18
          (with_reducible refine (eg_apply f 1 A1 3 c1 _ _ Wd (hf.call bb) o1.rdI (by omega) eg_1).mono ?_)
          rintro e We ⟨A2, n2, c2, rfl, o2, hn2, bn⟩
          go_wp2_with fail
          refine hK.out _ _ ?_ (fun hHeld => ?_)
          · exact HS.out _ (bb.trans (bn.mono bb.size))
          clear hK K
          try conv => arg 8; simp only [Act.put, List.setIfInBounds_toArray, List.set_cons_zero, List.set_cons_succ]
          replace q2 := q2.call bn
          replace bb := bb.trans (bn.mono bb.size)
          clear bn o1
          refine wpAnyH_ready (rs := [22]) (by kernel_rfl) (by simp) ?_
          refine AllReadyH.cons (by simp only [List.getElem?_toArray]; rfl) (fun K hK => ?_) AllReadyH.nil
          refine wanted_pos (by kernel_rfl) ?_
          go_simp
          clear hHeld
          go_at_call 32
          (with_reducible refine (eg_glyphs A2 n2 c2 _ _ 5 5 We o2 q2 hn2 (by omega)).mono ?_)
          rintro e Wz ⟨rfl, bn⟩
          go_wp2_with fail
          refine hK.out _ _ ?_ (fun hHeld => ?_)
          · exact HS.out _ (bb.trans (bn.mono bb.size))
          clear hK K
          try conv => arg 8; simp only [Act.put, List.setIfInBounds_toArray, List.set_cons_zero, List.set_cons_succ]
          replace bb := bb.trans (bn.mono bb.size)
          clear bn q2 o2
          generalize Value.slice (some ⟨g1, 0, none⟩) 3 3 = v1
          generalize Value.slice A1 3 c1 = v2
          generalize Value.slice A2 n2 c2 = v3
          generalize Value.slice (some ⟨g2, 0, none⟩) 5 5 = v4
          clear hn2
          revert hHeld
          revert bb
          revert v4
          revert v3
          revert v2
          revert v1
          revert Wz
          exact cont.go
      · refine wanted_pos (by kernel_rfl) ?_
        go_simp
        clear hHeld
        refine hK.out _ _ ?_ (fun hHeld => ?_)
        · exact HS.out _ (below_lit _ _ bb _)
        clear hK K
        try conv => arg 8; simp only [Act.put, List.setIfInBounds_toArray, List.set_cons_zero, List.set_cons_succ]
        have bn : Below Wb.heap.size Wb (Wb.alloc (.cells #[.int .i64 0, .int .i64 0, .int .i64 1, .int .i64 0, .int .i64 0] 3)) := (Below.refl _ _).alloc (Nat.le_refl _) _
        replace q1 := q1.call bn
        replace bb := below_lit _ _ bb (.cells #[.int .i64 0, .int .i64 0, .int .i64 1, .int .i64 0, .int .i64 0] 3)
        have q2 : Rd (Wb.alloc (.cells #[.int .i64 0, .int .i64 0, .int .i64 1, .int .i64 0, .int .i64 0] 3)) (lo (Wb.alloc (.cells #[.int .i64 0, .int .i64 0, .int .i64 1, .int .i64 0, .int .i64 0] 3)).heap.size) (some ⟨Wb.heap.size, 0, none⟩) 5 [0, 0, 1, 0, 0] := rd_lit Wb [0, 0, 1, 0, 0]
        clear bn
        generalize Wb.alloc (.cells #[.int .i64 0, .int .i64 0, .int .i64 1, .int .i64 0, .int .i64 0] 3) = Wc at *
        generalize Wb.heap.size = g2 at *
        refine wpAnyH_ready (rs := [19]) (by kernel_rfl) (by simp) ?_
        refine AllReadyH.cons (by simp only [List.getElem?_toArray]; rfl) (fun K hK => ?_) AllReadyH.nil
        refine wanted_pos (by kernel_rfl) ?_
        go_simp
        clear hHeld
        go_at_call 31
        (with_reducible refine (run_c _ _ _ [0, 1, 0] Wc q1 (by omega)).mono ?_)
        rintro e Wd ⟨A1, c1, rfl, o1, bn⟩
        go_wp2_with fail
        refine hK.out _ _ ?_ (fun hHeld => ?_)
        · exact HS.out _ (bb.trans (bn.mono bb.size))
        clear hK K
        try conv => arg 8; simp only [Act.put, List.setIfInBounds_toArray, List.set_cons_zero, List.set_cons_succ]
        replace q2 := q2.call bn
        replace bb := bb.trans (bn.mono bb.size)
        clear bn q1
        refine wpAnyH_ready (rs := [20]) (by kernel_rfl) (by simp) ?_
        refine AllReadyH.cons (by simp only [List.getElem?_toArray]; rfl) (fun K hK => ?_) AllReadyH.nil
        refine wanted_pos (by kernel_rfl) ?_
        go_simp
        clear hHeld
        go_at_call 18
        (with_reducible refine (eg_apply f 1 A1 3 c1 _ _ Wd (hf.call bb) o1.rdI (by omega) eg_1).mono ?_)
        rintro e We ⟨A2, n2, c2, rfl, o2, hn2, bn⟩
        go_wp2_with fail
        refine hK.out _ _ ?_ (fun hHeld => ?_)
        · exact HS.out _ (bb.trans (bn.mono bb.size))
        clear hK K
        try conv => arg 8; simp only [Act.put, List.setIfInBounds_toArray, List.set_cons_zero, List.set_cons_succ]
        replace q2 := q2.call bn
        replace bb := bb.trans (bn.mono bb.size)
        clear bn o1
        refine wpAnyH_ready (rs := [22]) (by kernel_rfl) (by simp) ?_
        refine AllReadyH.cons (by simp only [List.getElem?_toArray]; rfl) (fun K hK => ?_) AllReadyH.nil
        refine wanted_pos (by kernel_rfl) ?_
        go_simp
        clear hHeld
        go_at_call 32
        (with_reducible refine (eg_glyphs A2 n2 c2 _ _ 5 5 We o2 q2 hn2 (by omega)).mono ?_)
        rintro e Wz ⟨rfl, bn⟩
        go_wp2_with fail
        refine hK.out _ _ ?_ (fun hHeld => ?_)
        · exact HS.out _ (bb.trans (bn.mono bb.size))
        clear hK K
        try conv => arg 8; simp only [Act.put, List.setIfInBounds_toArray, List.set_cons_zero, List.set_cons_succ]
        replace bb := bb.trans (bn.mono bb.size)
        clear bn q2 o2
        generalize Value.slice (some ⟨g1, 0, none⟩) 3 3 = v1
        generalize Value.slice A1 3 c1 = v2
        generalize Value.slice A2 n2 c2 = v3
        generalize Value.slice (some ⟨g2, 0, none⟩) 5 5 = v4
        clear hn2
        revert hHeld
        revert bb
        revert v4
        revert v3
        revert v2
        revert v1
        revert Wz
        exact cont.go
    · refine wanted_pos (by kernel_rfl) ?_
      go_simp
      clear hHeld
      refine hK.out _ _ ?_ (fun hHeld => ?_)
      · exact HS.out _ (below_lit _ _ bb _)
      clear hK K
      try conv => arg 8; simp only [Act.put, List.setIfInBounds_toArray, List.set_cons_zero, List.set_cons_succ]
      have bn : Below W1.heap.size W1 (W1.alloc (.cells #[.int .i64 0, .int .i64 0, .int .i64 1, .int .i64 0, .int .i64 0] 3)) := (Below.refl _ _).alloc (Nat.le_refl _) _
      replace bb := below_lit _ _ bb (.cells #[.int .i64 0, .int .i64 0, .int .i64 1, .int .i64 0, .int .i64 0] 3)
      have q2 : Rd (W1.alloc (.cells #[.int .i64 0, .int .i64 0, .int .i64 1, .int .i64 0, .int .i64 0] 3)) (lo (W1.alloc (.cells #[.int .i64 0, .int .i64 0, .int .i64 1, .int .i64 0, .int .i64 0] 3)).heap.size) (some ⟨W1.heap.size, 0, none⟩) 5 [0, 0, 1, 0, 0] := rd_lit W1 [0, 0, 1, 0, 0]
      clear bn
      generalize W1.alloc (.cells #[.int .i64 0, .int .i64 0, .int .i64 1, .int .i64 0, .int .i64 0] 3) = Wb at *
      generalize W1.heap.size = g2 at *
      refine wpAnyH_ready (rs := [18]) (by kernel_rfl) (by simp) ?_
      refine AllReadyH.cons (by simp only [List.getElem?_toArray]; rfl) (fun K hK => ?_) AllReadyH.nil
      refine wanted_pos (by kernel_rfl) ?_
      go_simp
      clear hHeld
      refine hK.out _ _ ?_ (fun hHeld => ?_)
      · exact HS.out _ (below_lit _ _ bb _)
      clear hK K
      try conv => arg 8; simp only [Act.put, List.setIfInBounds_toArray, List.set_cons_zero, List.set_cons_succ]
      have bn : Below Wb.heap.size Wb (Wb.alloc (.cells #[.int .i64 0, .int .i64 1, .int .i64 0] 3)) := (Below.refl _ _).alloc (Nat.le_refl _) _
      replace q2 := q2.call bn
      replace bb := below_lit _ _ bb (.cells #[.int .i64 0, .int .i64 1, .int .i64 0] 3)
      have q1 : Rd (Wb.alloc (.cells #[.int .i64 0, .int .i64 1, .int .i64 0] 3)) (lo (Wb.alloc (.cells #[.int .i64 0, .int .i64 1, .int .i64 0] 3)).heap.size) (some ⟨Wb.heap.size, 0, none⟩) 3 [0, 1, 0] := rd_lit Wb [0, 1, 0]
      clear bn
      generalize Wb.alloc (.cells #[.int .i64 0, .int .i64 1, .int .i64 0] 3) = Wc at *
      generalize Wb.heap.size = g1 at *
      refine wpAnyH_ready (rs := [19]) (by kernel_rfl) (by simp) ?_
      refine AllReadyH.cons (by simp only [List.getElem?_toArray]; rfl) (fun K hK => ?_) AllReadyH.nil
      refine wanted_pos (by kernel_rfl) ?_
      go_simp
      clear hHeld
      go_at_call 31
      (with_reducible refine (run_c _ _ _ [0, 1, 0] Wc q1 (by omega)).mono ?_)
      rintro e Wd ⟨A1, c1, rfl, o1, bn⟩
      go_wp2_with fail
      refine hK.out _ _ ?_ (fun hHeld => ?_)
      · exact HS.out _ (bb.trans (bn.mono bb.size))
      clear hK K
      try conv => arg 8; simp only [Act.put, List.setIfInBounds_toArray, List.set_cons_zero, List.set_cons_succ]
      replace q2 := q2.call bn
      replace bb := bb.trans (bn.mono bb.size)
      clear bn q1
      refine wpAnyH_ready (rs := [20]) (by kernel_rfl) (by simp) ?_
      refine AllReadyH.cons (by simp only [List.getElem?_toArray]; rfl) (fun K hK => ?_) AllReadyH.nil
      refine wanted_pos (by kernel_rfl) ?_
      go_simp
      clear hHeld
      go_at_call 18
      (with_reducible refine (eg_apply f 1 A1 3 c1 _ _ Wd (hf.call bb) o1.rdI (by omega) eg_1).mono ?_)
      rintro e We ⟨A2, n2, c2, rfl, o2, hn2, bn⟩
      go_wp2_with fail
      refine hK.out _ _ ?_ (fun hHeld => ?_)
      · exact HS.out _ (bb.trans (bn.mono bb.size))
      clear hK K
      try conv => arg 8; simp only [Act.put, List.setIfInBounds_toArray, List.set_cons_zero, List.set_cons_succ]
      replace q2 := q2.call bn
      replace bb := bb.trans (bn.mono bb.size)
      clear bn o1
      refine wpAnyH_ready (rs := [22]) (by kernel_rfl) (by simp) ?_
      refine AllReadyH.cons (by simp only [List.getElem?_toArray]; rfl) (fun K hK => ?_) AllReadyH.nil
      refine wanted_pos (by kernel_rfl) ?_
      go_simp
      clear hHeld
      go_at_call 32
      (with_reducible refine (eg_glyphs A2 n2 c2 _ _ 5 5 We o2 q2 hn2 (by omega)).mono ?_)
      rintro e Wz ⟨rfl, bn⟩
      go_wp2_with fail
      refine hK.out _ _ ?_ (fun hHeld => ?_)
      · exact HS.out _ (bb.trans (bn.mono bb.size))
      clear hK K
      try conv => arg 8; simp only [Act.put, List.setIfInBounds_toArray, List.set_cons_zero, List.set_cons_succ]
      replace bb := bb.trans (bn.mono bb.size)
      clear bn q2 o2
      generalize Value.slice (some ⟨g1, 0, none⟩) 3 3 = v1
      generalize Value.slice A1 3 c1 = v2
      generalize Value.slice A2 n2 c2 = v3
      generalize Value.slice (some ⟨g2, 0, none⟩) 5 5 = v4
      clear hn2
      revert hHeld
      revert bb
      revert v4
      revert v3
      revert v2
      revert v1
      revert Wz
      exact cont.go
  intro W2 v1 v2 v3 v4 bb hHeld
  refine wpAnyH_take (i := 23) (v := ?_) (by simp only [List.getElem?_toArray]; rfl) (by kernel_rfl) (by kernel_rfl) (by kernel_rfl) (by exact fun _ _ _ h => h) (Or.inl ⟨by rfl, ?_⟩) (by assumption) ?_
  rotate_left 1
  · intro w hSw; (try dsimp only at hSw); go_simp; try with_reducible rfl
  try conv => arg 8; simp only [Act.put, List.setIfInBounds_toArray, List.set_cons_zero, List.set_cons_succ]
  refine wpAnyH_take (i := 24) (v := ?_) (by simp only [List.getElem?_toArray]; rfl) (by kernel_rfl) (by kernel_rfl) (by kernel_rfl) (by exact fun _ _ _ h => h) (Or.inl ⟨by rfl, ?_⟩) (by assumption) ?_
  rotate_left 1
  · intro w hSw; (try dsimp only at hSw); go_simp; try with_reducible rfl
  try conv => arg 8; simp only [Act.put, List.setIfInBounds_toArray, List.set_cons_zero, List.set_cons_succ]
  as_aux_lemma =>
    refine wpAnyH_take (i := 25) (v := ?_) (by simp only [List.getElem?_toArray]; rfl) (by kernel_rfl) (by kernel_rfl) (by kernel_rfl) (by exact fun _ _ _ h => h) (Or.inl ⟨by rfl, ?_⟩) (by assumption) ?_
    rotate_left 1
    · intro w hSw; (try dsimp only at hSw); go_simp; try with_reducible rfl
    try conv => arg 8; simp only [Act.put, List.setIfInBounds_toArray, List.set_cons_zero, List.set_cons_succ]
    revert hHeld
    revert bb
    refine Wrap.out ?_
    apply later
    · intro cont bb hHeld
      refine wpAnyH_ready (rs := [26, 29]) (by kernel_rfl) (by simp) ?_
      refine AllReadyH.cons (by simp only [List.getElem?_toArray]; rfl) (fun K hK => ?_) (AllReadyH.cons (by simp only [List.getElem?_toArray]; rfl) (fun K hK => ?_) AllReadyH.nil)
      · refine wanted_pos (by kernel_rfl) ?_
        go_simp
        clear hHeld
        refine hK.out _ _ ?_ (fun hHeld => ?_)
        · exact HS.out _ (below_lit _ _ bb _)
        clear hK K
        try conv => arg 8; simp only [Act.put, List.setIfInBounds_toArray, List.set_cons_zero, List.set_cons_succ]
        have bn : Below W2.heap.size W2 (W2.alloc (.cells #[.int .i64 0, .int .i64 1] 3)) := (Below.refl _ _).alloc (Nat.le_refl _) _
        replace bb := below_lit _ _ bb (.cells #[.int .i64 0, .int .i64 1] 3)
        have q1 : Rd (W2.alloc (.cells #[.int .i64 0, .int .i64 1] 3)) (lo (W2.alloc (.cells #[.int .i64 0, .int .i64 1] 3)).heap.size) (some ⟨W2.heap.size, 0, none⟩) 2 [0, 1] := rd_lit W2 [0, 1]
        clear bn
        generalize W2.alloc (.cells #[.int .i64 0, .int .i64 1] 3) = Wb at *
        generalize W2.heap.size = g1 at *
        refine wpAnyH_ready (rs := [27, 29]) (by kernel_rfl) (by simp) ?_
        refine AllReadyH.cons (by simp only [List.getElem?_toArray]; rfl) (fun K hK => ?_) (AllReadyH.cons (by simp only [List.getElem?_toArray]; rfl) (fun K hK => ?_) AllReadyH.nil)
        · refine wanted_pos (by kernel_rfl) ?_
          go_simp
          clear hHeld
          go_at_call 31
          (with_reducible refine (run_c _ _ _ [0, 1] Wb q1 (by omega)).mono ?_)
          rintro e Wc ⟨A1, c1, rfl, o1, bn⟩
          go_wp2_with fail
          refine hK.out _ _ ?_ (fun hHeld => ?_)
          · exact HS.out _ (bb.trans (bn.mono bb.size))
          clear hK K
          try conv => arg 8; simp only [Act.put, List.setIfInBounds_toArray, List.set_cons_zero, List.set_cons_succ]
          replace bb := bb.trans (bn.mono bb.size)
          clear bn q1
          refine wpAnyH_ready (rs := [28, 29]) (by kernel_rfl) (by simp) ?_
          refine AllReadyH.cons (by simp only [List.getElem?_toArray]; rfl) (fun K hK => ?_) (AllReadyH.cons (by simp only [List.getElem?_toArray]; rfl) (fun K hK => ?_) AllReadyH.nil)
          · refine wanted_pos (by kernel_rfl) ?_
            go_simp
            clear hHeld
            go_at_call 18
            (with_reducible refine (eg_apply f 2 A1 2 c1 _ _ Wc (hf.call bb) o1.rdI (by omega) eg_2).mono ?_)
            rintro e Wd ⟨A2, n2, c2, rfl, o2, hn2, bn⟩
            go_wp2_with fail
            refine hK.out _ _ ?_ (fun hHeld => ?_)
            · exact HS.out _ (bb.trans (bn.mono bb.size))
            clear hK K
            try conv => arg 8; simp only [Act.put, List.setIfInBounds_toArray, List.set_cons_zero, List.set_cons_succ]
            replace bb := bb.trans (bn.mono bb.size)
            clear bn o1
            refine wpAnyH_ready (rs := [29]) (by kernel_rfl) (by simp) ?_
            refine AllReadyH.cons (by simp only [List.getElem?_toArray]; rfl) (fun K hK => ?_) AllReadyH.nil
            refine wanted_pos (by kernel_rfl) ?_
            go_simp
            clear hHeld
            refine hK.out _ _ ?_ (fun hHeld => ?_)
            · exact HS.out _ (below_lit _ _ bb _)
            clear hK K
            try conv => arg 8; simp only [Act.put, List.setIfInBounds_toArray, List.set_cons_zero, List.set_cons_succ]
            have bn : Below Wd.heap.size Wd (Wd.alloc (.cells #[.int .i64 2, .int .i64 3, .int .i64 1] 3)) := (Below.refl _ _).alloc (Nat.le_refl _) _
            replace bb := below_lit _ _ bb (.cells #[.int .i64 2, .int .i64 3, .int .i64 1] 3)
            have q2 : Rd (Wd.alloc (.cells #[.int .i64 2, .int .i64 3, .int .i64 1] 3)) (lo (Wd.alloc (.cells #[.int .i64 2, .int .i64 3, .int .i64 1] 3)).heap.size) (some ⟨Wd.heap.size, 0, none⟩) 3 [2, 3, 1] := rd_lit Wd [2, 3, 1]
            replace o2 := o2.call bn
            clear bn
            generalize Wd.alloc (.cells #[.int .i64 2, .int .i64 3, .int .i64 1] 3) = We at *
            generalize Wd.heap.size = g2 at *
            refine wpAnyH_ready (rs := [30]) (by kernel_rfl) (by simp) ?_
            refine AllReadyH.cons (by simp only [List.getElem?_toArray]; rfl) (fun K hK => ?_) AllReadyH.nil
            refine wanted_pos (by kernel_rfl) ?_
            go_simp
            clear hHeld
            go_at_call 32
            (with_reducible refine (eg_glyphs A2 n2 c2 _ _ 3 3 We o2 q2 hn2 (by omega)).mono ?_)
            rintro e Wz ⟨rfl, bn⟩
            go_wp2_with fail
            refine hK.out _ _ ?_ (fun hHeld => ?_)
            · exact HS.out _ (bb.trans (bn.mono bb.size))
            clear hK K
            try conv => arg 8; simp only [Act.put, List.setIfInBounds_toArray, List.set_cons_zero, List.set_cons_succ]
            replace bb := bb.trans (bn.mono bb.size)
            clear bn q2 o2
            generalize Value.slice (some ⟨g1, 0, none⟩) 2 2 = v1
            generalize Value.slice A1 2 c1 = v2
            generalize Value.slice A2 n2 c2 = v3
            generalize Value.slice (some ⟨g2, 0, none⟩) 3 3 = v4
            clear hn2
            revert hHeld
            revert bb
            revert v4
            revert v3
            revert v2
            revert v1
            revert Wz
            exact cont.go
          · refine wanted_pos (by kernel_rfl) ?_
            go_simp
            clear hHeld
            refine hK.out _ _ ?_ (fun hHeld => ?_)
            · exact HS.out _ (below_lit _ _ bb _)
            clear hK K
            try conv => arg 8; simp only [Act.put, List.setIfInBounds_toArray, List.set_cons_zero, List.set_cons_succ]
            have bn : Below Wc.heap.size Wc (Wc.alloc (.cells #[.int .i64 2, .int .i64 3, .int .i64 1] 3)) := (Below.refl _ _).alloc (Nat.le_refl _) _
            replace o1 := o1.call bn
            replace bb := below_lit _ _ bb (.cells #[.int .i64 2, .int .i64 3, .int .i64 1] 3)
            have q2 : Rd (Wc.alloc (.cells #[.int .i64 2, .int .i64 3, .int .i64 1] 3)) (lo (Wc.alloc (.cells #[.int .i64 2, .int .i64 3, .int .i64 1] 3)).heap.size) (some ⟨Wc.heap.size, 0, none⟩) 3 [2, 3, 1] := rd_lit Wc [2, 3, 1]
            clear bn
            generalize Wc.alloc (.cells #[.int .i64 2, .int .i64 3, .int .i64 1] 3) = Wd at *
            generalize Wc.heap.size = g2 at *
            refine wpAnyH_ready (rs := [28]) (by kernel_rfl) (by simp) ?_
            refine AllReadyH.cons (by simp only [List.getElem?_toArray]; rfl) (fun K hK => ?_) AllReadyH.nil
            refine wanted_pos (by kernel_rfl) ?_
            go_simp
            clear hHeld
            go_at_call 18
            (with_reducible refine (eg_apply f 2 A1 2 c1 _ _ Wd (hf.call bb) o1.rdI (by omega) eg_2).mono ?_)
            rintro e We ⟨A2, n2, c2, rfl, o2, hn2, bn⟩
            go_wp2_with fail
            refine hK.out _ _ ?_ (fun hHeld => ?_)
            · exact HS.out _ (bb.trans (bn.mono bb.size))
            clear hK K
            try conv => arg 8; simp only [Act.put, List.setIfInBounds_toArray, List.set_cons_zero, List.set_cons_succ]
            replace q2 := q2.call bn
            replace bb := bb.trans (bn.mono bb.size)
            clear bn o1
            refine wpAnyH_ready (rs := [30]) (by kernel_rfl) (by simp) ?_
            refine AllReadyH.cons (by simp only [List.getElem?_toArray]; rfl) (fun K hK => ?_) AllReadyH.nil
            refine wanted_pos (by kernel_rfl) ?_
            go_simp
            clear hHeld
            go_at_call 32
            (with_reducible refine (eg_glyphs A2 n2 c2 _ _ 3 3 We o2 q2 hn2 (by omega)).mono ?_)
            rintro e Wz ⟨rfl, bn⟩
            go_wp2_with fail
            refine hK.out _ _ ?_ (fun hHeld => ?_)
            · exact HS.out _ (bb.trans (bn.mono bb.size))
            clear hK K
            try conv => arg 8; simp only [Act.put, List.setIfInBounds_toArray, List.set_cons_zero, List.set_cons_succ]
            replace bb := bb.trans (bn.mono bb.size)
            clear bn q2 o2
            generalize Value.slice (some ⟨g1, 0, none⟩) 2 2 = v1
            generalize Value.slice A1 2 c1 = v2
            generalize Value.slice A2 n2 c2 = v3
            generalize Value.slice (some ⟨g2, 0, none⟩) 3 3 = v4
            clear hn2
            revert hHeld
            revert bb
            revert v4
            revert v3
            revert v2
            revert v1
            revert Wz
            exact cont.go
        · refine wanted_pos (by kernel_rfl) ?_
          go_simp
          clear hHeld
          refine hK.out _ _ ?_ (fun hHeld => ?_)
          · exact HS.out _ (below_lit _ _ bb _)
          clear hK K
          try conv => arg 8; simp only [Act.put, List.setIfInBounds_toArray, List.set_cons_zero, List.set_cons_succ]
          have bn : Below Wb.heap.size Wb (Wb.alloc (.cells #[.int .i64 2, .int .i64 3, .int .i64 1] 3)) := (Below.refl _ _).alloc (Nat.le_refl _) _
          replace q1 := q1.call bn
          replace bb := below_lit _ _ bb (.cells #[.int .i64 2, .int .i64 3, .int .i64 1] 3)
          have q2 : Rd (Wb.alloc (.cells #[.int .i64 2, .int .i64 3, .int .i64 1] 3)) (lo (Wb.alloc (.cells #[.int .i64 2, .int .i64 3, .int .i64 1] 3)).heap.size) (some ⟨Wb.heap.size, 0, none⟩) 3 [2, 3, 1] := rd_lit Wb [2, 3, 1]
          clear bn
          generalize Wb.alloc (.cells #[.int .i64 2, .int .i64 3, .int .i64 1] 3) = Wc at *
          generalize Wb.heap.size = g2 at *
          refine wpAnyH_ready (rs := [27]) (by kernel_rfl) (by simp) ?_
          refine AllReadyH.cons (by simp only [List.getElem?_toArray]; rfl) (fun K hK => ?_) AllReadyH.nil
          refine wanted_pos (by kernel_rfl) ?_
          go_simp
          clear hHeld
          go_at_call 31
          (with_reducible refine (run_c _ _ _ [0, 1] Wc q1 (by omega)).mono ?_)
          rintro e Wd ⟨A1, c1, rfl, o1, bn⟩
          go_wp2_with fail
          refine hK.out _ _ ?_ (fun hHeld => ?_)
          · exact HS.out _ (bb.trans (bn.mono bb.size))
          clear hK K
          try conv => arg 8; simp only [Act.put, List.setIfInBounds_toArray, List.set_cons_zero, List.set_cons_succ]
          replace q2 := q2.call bn
          replace bb := bb.trans (bn.mono bb.size)
          clear bn q1
          refine wpAnyH_ready (rs := [28]) (by kernel_rfl) (by simp) ?_
          refine AllReadyH.cons (by simp only [List.getElem?_toArray]; rfl) (fun K hK => ?_) AllReadyH.nil
          refine wanted_pos (by kernel_rfl) ?_
          go_simp
          clear hHeld
          go_at_call 18
          (with_reducible refine (eg_apply f 2 A1 2 c1 _ _ Wd (hf.call bb) o1.rdI (by omega) eg_2).mono ?_)
          rintro e We ⟨A2, n2, c2, rfl, o2, hn2, bn⟩
          go_wp2_with fail
          refine hK.out _ _ ?_ (fun hHeld => ?_)
          · exact HS.out _ (bb.trans (bn.mono bb.size))
          clear hK K
          try conv => arg 8; simp only [Act.put, List.setIfInBounds_toArray, List.set_cons_zero, List.set_cons_succ]
          replace q2 := q2.call bn
          replace bb := bb.trans (bn.mono bb.size)
          clear bn o1
          refine wpAnyH_ready (rs := [30]) (by kernel_rfl) (by simp) ?_
          refine AllReadyH.cons (by simp only [List.getElem?_toArray]; rfl) (fun K hK => ?_) AllReadyH.nil
          refine wanted_pos (by kernel_rfl) ?_
          go_simp
          clear hHeld
          go_at_call 32
          (with_reducible refine (eg_glyphs A2 n2 c2 _ _ 3 3 We o2 q2 hn2 (by omega)).mono ?_)
          rintro e Wz ⟨rfl, bn⟩
          go_wp2_with fail
          refine hK.out _ _ ?_ (fun hHeld => ?_)
          · exact HS.out _ (bb.trans (bn.mono bb.size))
          clear hK K
          try conv => arg 8; simp only [Act.put, List.setIfInBounds_toArray, List.set_cons_zero, List.set_cons_succ]
          replace bb := bb.trans (bn.mono bb.size)
          clear bn q2 o2
          generalize Value.slice (some ⟨g1, 0, none⟩) 2 2 = v1
          generalize Value.slice A1 2 c1 = v2
          generalize Value.slice A2 n2 c2 = v3
          generalize Value.slice (some ⟨g2, 0, none⟩) 3 3 = v4
          clear hn2
          revert hHeld
          revert bb
          revert v4
          revert v3
          revert v2
          revert v1
          revert Wz
          exact cont.go
      · refine wanted_pos (by kernel_rfl) ?_
        go_simp
        clear hHeld
        refine hK.out _ _ ?_ (fun hHeld => ?_)
        · exact HS.out _ (below_lit _ _ bb _)
        clear hK K
        try conv => arg 8; simp only [Act.put, List.setIfInBounds_toArray, List.set_cons_zero, List.set_cons_succ]
        have bn : Below W2.heap.size W2 (W2.alloc (.cells #[.int .i64 2, .int .i64 3, .int .i64 1] 3)) := (Below.refl _ _).alloc (Nat.le_refl _) _
        replace bb := below_lit _ _ bb (.cells #[.int .i64 2, .int .i64 3, .int .i64 1] 3)
        have q2 : Rd (W2.alloc (.cells #[.int .i64 2, .int .i64 3, .int .i64 1] 3)) (lo (W2.alloc (.cells #[.int .i64 2, .int .i64 3, .int .i64 1] 3)).heap.size) (some ⟨W2.heap.size, 0, none⟩) 3 [2, 3, 1] := rd_lit W2 [2, 3, 1]
        clear bn
        generalize W2.alloc (.cells #[.int .i64 2, .int .i64 3, .int .i64 1] 3) = Wb at *
        generalize W2.heap.size = g2 at *
        refine wpAnyH_ready (rs := [26]) (by kernel_rfl) (by simp) ?_
        refine AllReadyH.cons (by simp only [List.getElem?_toArray]; rfl) (fun K hK => ?_) AllReadyH.nil
        refine wanted_pos (by kernel_rfl) ?_
        go_simp
        clear hHeld
        refine hK.out _ _ ?_ (fun hHeld => ?_)
        · exact HS.out _ (below_lit _ _ bb _)
        clear hK K
        try conv => arg 8; simp only [Act.put, List.setIfInBounds_toArray, List.set_cons_zero, List.set_cons_succ]
        have bn : Below Wb.heap.size Wb (Wb.alloc (.cells #[.int .i64 0, .int .i64 1] 3)) := (Below.refl _ _).alloc (Nat.le_refl _) _
        replace q2 := q2.call bn
        replace bb := below_lit _ _ bb (.cells #[.int .i64 0, .int .i64 1] 3)
        have q1 : Rd (Wb.alloc (.cells #[.int .i64 0, .int .i64 1] 3)) (lo (Wb.alloc (.cells #[.int .i64 0, .int .i64 1] 3)).heap.size) (some ⟨Wb.heap.size, 0, none⟩) 2 [0, 1] := rd_lit Wb [0, 1]
        clear bn
        generalize Wb.alloc (.cells #[.int .i64 0, .int .i64 1] 3) = Wc at *
        generalize Wb.heap.size = g1 at *
        refine wpAnyH_ready (rs := [27]) (by kernel_rfl) (by simp) ?_
        refine AllReadyH.cons (by simp only [List.getElem?_toArray]; rfl) (fun K hK => ?_) AllReadyH.nil
        refine wanted_pos (by kernel_rfl) ?_
        go_simp
        clear hHeld
        go_at_call 31
        (with_reducible refine (run_c _ _ _ [0, 1] Wc q1 (by omega)).mono ?_)
        rintro e Wd ⟨A1, c1, rfl, o1, bn⟩
        go_wp2_with fail
        refine hK.out _ _ ?_ (fun hHeld => ?_)
        · exact HS.out _ (bb.trans (bn.mono bb.size))
        clear hK K
        try conv => arg 8; simp only [Act.put, List.setIfInBounds_toArray, List.set_cons_zero, List.set_cons_succ]
        replace q2 := q2.call bn
        replace bb := bb.trans (bn.mono bb.size)
        clear bn q1
        refine wpAnyH_ready (rs := [28]) (by kernel_rfl) (by simp) ?_
        refine AllReadyH.cons (by simp only [List.getElem?_toArray]; rfl) (fun K hK => ?_) AllReadyH.nil
        refine wanted_pos (by kernel_rfl) ?_
        go_simp
        clear hHeld
        go_at_call 18
        (with_reducible refine (eg_apply f 2 A1 2 c1 _ _ Wd (hf.call bb) o1.rdI (by omega) eg_2).mono ?_)
        rintro e We ⟨A2, n2, c2, rfl, o2, hn2, bn⟩
        go_wp2_with fail
        refine hK.out _ _ ?_ (fun hHeld => ?_)
        · exact HS.out _ (bb.trans (bn.mono bb.size))
        clear hK K
        try conv => arg 8; simp only [Act.put, List.setIfInBounds_toArray, List.set_cons_zero, List.set_cons_succ]
        replace q2 := q2.call bn
        replace bb := bb.trans (bn.mono bb.size)
        clear bn o1
        refine wpAnyH_ready (rs := [30]) (by kernel_rfl) (by simp) ?_
        refine AllReadyH.cons (by simp only [List.getElem?_toArray]; rfl) (fun K hK => ?_) AllReadyH.nil
        refine wanted_pos (by kernel_rfl) ?_
        go_simp
        clear hHeld
        go_at_call 32
        (with_reducible refine (eg_glyphs A2 n2 c2 _ _ 3 3 We o2 q2 hn2 (by omega)).mono ?_)
        rintro e Wz ⟨rfl, bn⟩
        go_wp2_with fail
        refine hK.out _ _ ?_ (fun hHeld => ?_)
        · exact HS.out _ (bb.trans (bn.mono bb.size))
        clear hK K
        try conv => arg 8; simp only [Act.put, List.setIfInBounds_toArray, List.set_cons_zero, List.set_cons_succ]
        replace bb := bb.trans (bn.mono bb.size)
        clear bn q2 o2
        generalize Value.slice (some ⟨g1, 0, none⟩) 2 2 = v1
        generalize Value.slice A1 2 c1 = v2
        generalize Value.slice A2 n2 c2 = v3
        generalize Value.slice (some ⟨g2, 0, none⟩) 3 3 = v4
        clear hn2
        revert hHeld
        revert bb
        revert v4
        revert v3
        revert v2
        revert v1
        revert Wz
        exact cont.go
    intro W3 v1 v2 v3 v4 bb hHeld
    refine wpAnyH_take (i := 31) (v := ?_) (by simp only [List.getElem?_toArray]; rfl) (by kernel_rfl) (by kernel_rfl) (by kernel_rfl) (by exact fun _ _ _ h => h) (Or.inl ⟨by rfl, ?_⟩) (by assumption) ?_
    rotate_left 1
    · intro w hSw; (try dsimp only at hSw); go_simp; try with_reducible rfl
    try conv => arg 8; simp only [Act.put, List.setIfInBounds_toArray, List.set_cons_zero, List.set_cons_succ]
    refine wpAnyH_take (i := 32) (v := ?_) (by simp only [List.getElem?_toArray]; rfl) (by kernel_rfl) (by kernel_rfl) (by kernel_rfl) (by exact fun _ _ _ h => h) (Or.inl ⟨by rfl, ?_⟩) (by assumption) ?_
    rotate_left 1
    · intro w hSw; (try dsimp only at hSw); go_simp; try with_reducible rfl
    try conv => arg 8; simp only [Act.put, List.setIfInBounds_toArray, List.set_cons_zero, List.set_cons_succ]
    refine wpAnyH_take (i := 33) (v := ?_) (by simp only [List.getElem?_toArray]; rfl) (by kernel_rfl) (by kernel_rfl) (by kernel_rfl) (by exact fun _ _ _ h => h) (Or.inl ⟨by rfl, ?_⟩) (by assumption) ?_
    rotate_left 1
    · intro w hSw; (try dsimp only at hSw); go_simp; try with_reducible rfl
    try conv => arg 8; simp only [Act.put, List.setIfInBounds_toArray, List.set_cons_zero, List.set_cons_succ]
    revert hHeld
    revert bb
    refine Wrap.out ?_
    apply later
    · intro cont bb hHeld
      refine wpAnyH_ready (rs := [34, 37]) (by kernel_rfl) (by simp) ?_
      refine AllReadyH.cons (by simp only [List.getElem?_toArray]; rfl) (fun K hK => ?_) (AllReadyH.cons (by simp only [List.getElem?_toArray]; rfl) (fun K hK => ?_) AllReadyH.nil)
      · refine wanted_pos (by kernel_rfl) ?_
        go_simp
        clear hHeld
        refine hK.out _ _ ?_ (fun hHeld => ?_)
        · exact HS.out _ (below_lit _ _ bb _)
        clear hK K
        try conv => arg 8; simp only [Act.put, List.setIfInBounds_toArray, List.set_cons_zero, List.set_cons_succ]
        have bn : Below W3.heap.size W3 (W3.alloc (.cells #[.int .i64 0, .int .i64 0, .int .i64 1] 3)) := (Below.refl _ _).alloc (Nat.le_refl _) _
        replace bb := below_lit _ _ bb (.cells #[.int .i64 0, .int .i64 0, .int .i64 1] 3)
        have q1 : Rd (W3.alloc (.cells #[.int .i64 0, .int .i64 0, .int .i64 1] 3)) (lo (W3.alloc (.cells #[.int .i64 0, .int .i64 0, .int .i64 1] 3)).heap.size) (some ⟨W3.heap.size, 0, none⟩) 3 [0, 0, 1] := rd_lit W3 [0, 0, 1]
        clear bn
        generalize W3.alloc (.cells #[.int .i64 0, .int .i64 0, .int .i64 1] 3) = Wb at *
        generalize W3.heap.size = g1 at *
        refine wpAnyH_ready (rs := [35, 37]) (by kernel_rfl) (by simp) ?_
        refine AllReadyH.cons (by simp only [List.getElem?_toArray]; rfl) (fun K hK => ?_) (AllReadyH.cons (by simp only [List.getElem?_toArray]; rfl) (fun K hK => ?_) AllReadyH.nil)
        · refine wanted_pos (by kernel_rfl) ?_
          go_simp
          clear hHeld
          go_at_call 31
          (with_reducible refine (run_c _ _ _ [0, 0, 1] Wb q1 (by omega)).mono ?_)
          rintro e Wc ⟨A1, c1, rfl, o1, bn⟩
          go_wp2_with fail
          refine hK.out _ _ ?_ (fun hHeld => ?_)
          · exact HS.out _ (bb.trans (bn.mono bb.size))
          clear hK K
          try conv => arg 8; simp only [Act.put, List.setIfInBounds_toArray, List.set_cons_zero, List.set_cons_succ]
          replace bb := bb.trans (bn.mono bb.size)
          clear bn q1
          refine wpAnyH_ready (rs := [36, 37]) (by kernel_rfl) (by simp) ?_
          refine AllReadyH.cons (by simp only [List.getElem?_toArray]; rfl) (fun K hK => ?_) (AllReadyH.cons (by simp only [List.getElem?_toArray]; rfl) (fun K hK => ?_) AllReadyH.nil)
          · refine wanted_pos (by kernel_rfl) ?_
            go_simp
            clear hHeld
            go_at_call 18
            (with_reducible refine (eg_apply f 5 A1 3 c1 _ _ Wc (hf.call bb) o1.rdI (by omega) eg_5).mono ?_)
            rintro e Wd ⟨A2, n2, c2, rfl, o2, hn2, bn⟩
            go_wp2_with fail
            refine hK.out _ _ ?_ (fun hHeld => ?_)
            · exact HS.out _ (bb.trans (bn.mono bb.size))
            clear hK K
            try conv => arg 8; simp only [Act.put, List.setIfInBounds_toArray, List.set_cons_zero, List.set_cons_succ]
            replace bb := bb.trans (bn.mono bb.size)
            clear bn o1
            refine wpAnyH_ready (rs := [37]) (by kernel_rfl) (by simp) ?_
            refine AllReadyH.cons (by simp only [List.getElem?_toArray]; rfl) (fun K hK => ?_) AllReadyH.nil
            refine wanted_pos (by kernel_rfl) ?_
            go_simp
            clear hHeld
            refine hK.out _ _ ?_ (fun hHeld => ?_)
            · exact HS.out _ (below_lit _ _ bb _)
            clear hK K
            try conv => arg 8; simp only [Act.put, List.setIfInBounds_toArray, List.set_cons_zero, List.set_cons_succ]
            have bn : Below Wd.heap.size Wd (Wd.alloc (.cells #[.int .i64 1, .int .i64 1, .int .i64 1] 3)) := (Below.refl _ _).alloc (Nat.le_refl _) _
            replace bb := below_lit _ _ bb (.cells #[.int .i64 1, .int .i64 1, .int .i64 1] 3)
            have q2 : Rd (Wd.alloc (.cells #[.int .i64 1, .int .i64 1, .int .i64 1] 3)) (lo (Wd.alloc (.cells #[.int .i64 1, .int .i64 1, .int .i64 1] 3)).heap.size) (some ⟨Wd.heap.size, 0, none⟩) 3 [1, 1, 1] := rd_lit Wd [1, 1, 1]
            replace o2 := o2.call bn
            clear bn
            generalize Wd.alloc (.cells #[.int .i64 1, .int .i64 1, .int .i64 1] 3) = We at *
            generalize Wd.heap.size = g2 at *
            refine wpAnyH_ready (rs := [38]) (by kernel_rfl) (by simp) ?_
            refine AllReadyH.cons (by simp only [List.getElem?_toArray]; rfl) (fun K hK => ?_) AllReadyH.nil
            refine wanted_pos (by kernel_rfl) ?_
            go_simp
            clear hHeld
            go_at_call 32
            (with_reducible refine (eg_glyphs A2 n2 c2 _ _ 3 3 We o2 q2 hn2 (by omega)).mono ?_)
            rintro e Wz ⟨rfl, bn⟩
            go_wp2_with fail
            refine hK.out _ _ ?_ (fun hHeld => ?_)
            · exact HS.out _ (bb.trans (bn.mono bb.size))
            clear hK K
            try conv => arg 8; simp only [Act.put, List.setIfInBounds_toArray, List.set_cons_zero, List.set_cons_succ]
            replace bb := bb.trans (bn.mono bb.size)
            clear bn q2 o2
            generalize Value.slice (some ⟨g1, 0, none⟩) 3 3 = v1
            generalize Value.slice A1 3 c1 = v2
            generalize Value.slice A2 n2 c2 = v3
            generalize Value.slice (some ⟨g2, 0, none⟩) 3 3 = v4
            clear hn2
            revert hHeld
            revert bb
            revert v4
            revert v3
            revert v2
            revert v1
            revert Wz
            exact cont.go
          · refine wanted_pos (by kernel_rfl) ?_
            go_simp
            clear hHeld
            refine hK.out _ _ ?_ (fun hHeld => ?_)
            · exact HS.out _ (below_lit _ _ bb _)
            clear hK K
            try conv => arg 8; simp only [Act.put, List.setIfInBounds_toArray, List.set_cons_zero, List.set_cons_succ]
            have bn : Below Wc.heap.size Wc (Wc.alloc (.cells #[.int .i64 1, .int .i64 1, .int .i64 1] 3)) := (Below.refl _ _).alloc (Nat.le_refl _) _
            replace o1 := o1.call bn
            replace bb := below_lit _ _ bb (.cells #[.int .i64 1, .int .i64 1, .int .i64 1] 3)
            have q2 : Rd (Wc.alloc (.cells #[.int .i64 1, .int .i64 1, .int .i64 1] 3)) (lo (Wc.alloc (.cells #[.int .i64 1, .int .i64 1, .int .i64 1] 3)).heap.size) (some ⟨Wc.heap.size, 0, none⟩) 3 [1, 1, 1] := rd_lit Wc [1, 1, 1]
            clear bn
            generalize Wc.alloc (.cells #[.int .i64 1, .int .i64 1, .int .i64 1] 3) = Wd at *
            generalize Wc.heap.size = g2 at *
            refine wpAnyH_ready (rs := [36]) (by kernel_rfl) (by simp) ?_
            refine AllReadyH.cons (by simp only [List.getElem?_toArray]; rfl) (fun K hK => ?_) AllReadyH.nil
            refine wanted_pos (by kernel_rfl) ?_
            go_simp
            clear hHeld
            go_at_call 18
            (with_reducible refine (eg_apply f 5 A1 3 c1 _ _ Wd (hf.call bb) o1.rdI (by omega) eg_5).mono ?_)
            rintro e We ⟨A2, n2, c2, rfl, o2, hn2, bn⟩
            go_wp2_with fail
            refine hK.out _ _ ?_ (fun hHeld => ?_)
            · exact HS.out _ (bb.trans (bn.mono bb.size))
            clear hK K
            try conv => arg 8; simp only [Act.put, List.setIfInBounds_toArray, List.set_cons_zero, List.set_cons_succ]
            replace q2 := q2.call bn
            replace bb := bb.trans (bn.mono bb.size)
            clear bn o1
            refine wpAnyH_ready (rs := [38]) (by kernel_rfl) (by simp) ?_
            refine AllReadyH.cons (by simp only [List.getElem?_toArray]; rfl) (fun K hK => ?_) AllReadyH.nil
            refine wanted_pos (by kernel_rfl) ?_
            go_simp
            clear hHeld
            go_at_call 32
            (with_reducible refine (eg_glyphs A2 n2 c2 _ _ 3 3 We o2 q2 hn2 (by omega)).mono ?_)
            rintro e Wz ⟨rfl, bn⟩
            go_wp2_with fail
            refine hK.out _ _ ?_ (fun hHeld => ?_)
            · exact HS.out _ (bb.trans (bn.mono bb.size))
            clear hK K
            try conv => arg 8; simp only [Act.put, List.setIfInBounds_toArray, List.set_cons_zero, List.set_cons_succ]
            replace bb := bb.trans (bn.mono bb.size)
            clear bn q2 o2
            generalize Value.slice (some ⟨g1, 0, none⟩) 3 3 = v1
            generalize Value.slice A1 3 c1 = v2
            generalize Value.slice A2 n2 c2 = v3
            generalize Value.slice (some ⟨g2, 0, none⟩) 3 3 = v4
            clear hn2
            revert hHeld
            revert bb
            revert v4
            revert v3
            revert v2
            revert v1
            revert Wz
            exact cont.go
        · refine wanted_pos (by kernel_rfl) ?_
          go_simp
          clear hHeld
          refine hK.out _ _ ?_ (fun hHeld => ?_)
          · exact HS.out _ (below_lit _ _ bb _)
          clear hK K
          try conv => arg 8; simp only [Act.put, List.setIfInBounds_toArray, List.set_cons_zero, List.set_cons_succ]
          have bn : Below Wb.heap.size Wb (Wb.alloc (.cells #[.int .i64 1, .int .i64 1, .int .i64 1] 3)) := (Below.refl _ _).alloc (Nat.le_refl _) _
          replace q1 := q1.call bn
          replace bb := below_lit _ _ bb (.cells #[.int .i64 1, .int .i64 1, .int .i64 1] 3)
          have q2 : Rd (Wb.alloc (.cells #[.int .i64 1, .int .i64 1, .int .i64 1] 3)) (lo (Wb.alloc (.cells #[.int .i64 1, .int .i64 1, .int .i64 1] 3)).heap.size) (some ⟨Wb.heap.size, 0, none⟩) 3 [1, 1, 1] := rd_lit Wb [1, 1, 1]
          clear bn
          generalize Wb.alloc (.cells #[.int .i64 1, .int .i64 1, .int .i64 1] 3) = Wc at *
          generalize Wb.heap.size = g2 at *
          refine wpAnyH_ready (rs := [35]) (by kernel_rfl) (by simp) ?_
          refine AllReadyH.cons (by simp only [List.getElem?_toArray]; rfl) (fun K hK => ?_) AllReadyH.nil
          refine wanted_pos (by kernel_rfl) ?_
          go_simp
          clear hHeld
          go_at_call 31
          (with_reducible refine (run_c _ _ _ [0, 0, 1] Wc q1 (by omega)).mono ?_)
          rintro e Wd ⟨A1, c1, rfl, o1, bn⟩
          go_wp2_with fail
          refine hK.out _ _ ?_ (fun hHeld => ?_)
          · exact HS.out _ (bb.trans (bn.mono bb.size))
          clear hK K
          try conv => arg 8; simp only [Act.put, List.setIfInBounds_toArray, List.set_cons_zero, List.set_cons_succ]
          replace q2 := q2.call bn
          replace bb := bb.trans (bn.mono bb.size)
          clear bn q1
          refine wpAnyH_ready (rs := [36]) (by kernel_rfl) (by simp) ?_
          refine AllReadyH.cons (by simp only [List.getElem?_toArray]; rfl) (fun K hK => ?_) AllReadyH.nil
          refine wanted_pos (by kernel_rfl) ?_
          go_simp
          clear hHeld
          go_at_call 18
          (with_reducible refine (eg_apply f 5 A1 3 c1 _ _ Wd (hf.call bb) o1.rdI (by omega) eg_5).mono ?_)
          rintro e We ⟨A2, n2, c2, rfl, o2, hn2, bn⟩
          go_wp2_with fail
          refine hK.out _ _ ?_ (fun hHeld => ?_)
          · exact HS.out _ (bb.trans (bn.mono bb.size))
          clear hK K
          try conv => arg 8; simp only [Act.put, List.setIfInBounds_toArray, List.set_cons_zero, List.set_cons_succ]
          replace q2 := q2.call bn
          replace bb := bb.trans (bn.mono bb.size)
          clear bn o1
          refine wpAnyH_ready (rs := [38]) (by kernel_rfl) (by simp) ?_
          refine AllReadyH.cons (by simp only [List.getElem?_toArray]; rfl) (fun K hK => ?_) AllReadyH.nil
          refine wanted_pos (by kernel_rfl) ?_
          go_simp
          clear hHeld
          go_at_call 32
          (with_reducible refine (eg_glyphs A2 n2 c2 _ _ 3 3 We o2 q2 hn2 (by omega)).mono ?_)
          rintro e Wz ⟨rfl, bn⟩
          go_wp2_with fail
          refine hK.out _ _ ?_ (fun hHeld => ?_)
          · exact HS.out _ (bb.trans (bn.mono bb.size))
          clear hK K
          try conv => arg 8; simp only [Act.put, List.setIfInBounds_toArray, List.set_cons_zero, List.set_cons_succ]
          replace bb := bb.trans (bn.mono bb.size)
          clear bn q2 o2
          generalize Value.slice (some ⟨g1, 0, none⟩) 3 3 = v1
          generalize Value.slice A1 3 c1 = v2
          generalize Value.slice A2 n2 c2 = v3
          generalize Value.slice (some ⟨g2, 0, none⟩) 3 3 = v4
          clear hn2
          revert hHeld
          revert bb
          revert v4
          revert v3
          revert v2
          revert v1
          revert Wz
          exact cont.go
      · refine wanted_pos (by kernel_rfl) ?_
        go_simp
        clear hHeld
        refine hK.out _ _ ?_ (fun hHeld => ?_)
        · exact HS.out _ (below_lit _ _ bb _)
        clear hK K
        try conv => arg 8; simp only [Act.put, List.setIfInBounds_toArray, List.set_cons_zero, List.set_cons_succ]
        have bn : Below W3.heap.size W3 (W3.alloc (.cells #[.int .i64 1, .int .i64 1, .int .i64 1] 3)) := (Below.refl _ _).alloc (Nat.le_refl _) _
        replace bb := below_lit _ _ bb (.cells #[.int .i64 1, .int .i64 1, .int .i64 1] 3)
        have q2 : Rd (W3.alloc (.cells #[.int .i64 1, .int .i64 1, .int .i64 1] 3)) (lo (W3.alloc (.cells #[.int .i64 1, .int .i64 1, .int .i64 1] 3)).heap.size) (some ⟨W3.heap.size, 0, none⟩) 3 [1, 1, 1] := rd_lit W3 [1, 1, 1]
        clear bn
        generalize W3.alloc (.cells #[.int .i64 1, .int .i64 1, .int .i64 1] 3) = Wb at *
        generalize W3.heap.size = g2 at *
        refine wpAnyH_ready (rs := [34]) (by kernel_rfl) (by simp) ?_
        refine AllReadyH.cons (by simp only [List.getElem?_toArray]; rfl) (fun K hK => ?_) AllReadyH.nil
        refine wanted_pos (by kernel_rfl) ?_
        go_simp
        clear hHeld
        refine hK.out _ _ ?_ (fun hHeld => ?_)
        · exact HS.out _ (below_lit _ _ bb _)
        clear hK K
        try conv => arg 8; simp only [Act.put, List.setIfInBounds_toArray, List.set_cons_zero, List.set_cons_succ]
        have bn : Below Wb.heap.size Wb (Wb.alloc (.cells #[.int .i64 0, .int .i64 0, .int .i64 1] 3)) := (Below.refl _ _).alloc (Nat.le_refl _) _
        replace q2 := q2.call bn
        replace bb := below_lit _ _ bb (.cells #[.int .i64 0, .int .i64 0, .int .i64 1] 3)
        have q1 : Rd (Wb.alloc (.cells #[.int .i64 0, .int .i64 0, .int .i64 1] 3)) (lo (Wb.alloc (.cells #[.int .i64 0, .int .i64 0, .int .i64 1] 3)).heap.size) (some ⟨Wb.heap.size, 0, none⟩) 3 [0, 0, 1] := rd_lit Wb [0, 0, 1]
        clear bn
        generalize Wb.alloc (.cells #[.int .i64 0, .int .i64 0, .int .i64 1] 3) = Wc at *
        generalize Wb.heap.size = g1 at *
        refine wpAnyH_ready (rs := [35]) (by kernel_rfl) (by simp) ?_
        refine AllReadyH.cons (by simp only [List.getElem?_toArray]; rfl) (fun K hK => ?_) AllReadyH.nil
        refine wanted_pos (by kernel_rfl) ?_
        go_simp
        clear hHeld
        go_at_call 31
        (with_reducible refine (run_c _ _ _ [0, 0, 1] Wc q1 (by omega)).mono ?_)
        rintro e Wd ⟨A1, c1, rfl, o1, bn⟩
        go_wp2_with fail
        refine hK.out _ _ ?_ (fun hHeld => ?_)
        · exact HS.out _ (bb.trans (bn.mono bb.size))
        clear hK K
        try conv => arg 8; simp only [Act.put, List.setIfInBounds_toArray, List.set_cons_zero, List.set_cons_succ]
        replace q2 := q2.call bn
        replace bb := bb.trans (bn.mono bb.size)
        clear bn q1
        refine wpAnyH_ready (rs := [36]) (by kernel_rfl) (by simp) ?_
        refine AllReadyH.cons (by simp only [List.getElem?_toArray]; rfl) (fun K hK => ?_) AllReadyH.nil
        refine wanted_pos (by kernel_rfl) ?_
        go_simp
        clear hHeld
        go_at_call 18
        (with_reducible refine (eg_apply f 5 A1 3 c1 _ _ Wd (hf.call bb) o1.rdI (by omega) eg_5).mono ?_)
        rintro e We ⟨A2, n2, c2, rfl, o2, hn2, bn⟩
        go_wp2_with fail
        refine hK.out _ _ ?_ (fun hHeld => ?_)
        · exact HS.out _ (bb.trans (bn.mono bb.size))
        clear hK K
        try conv => arg 8; simp only [Act.put, List.setIfInBounds_toArray, List.set_cons_zero, List.set_cons_succ]
        replace q2 := q2.call bn
        replace bb := bb.trans (bn.mono bb.size)
        clear bn o1
        refine wpAnyH_ready (rs := [38]) (by kernel_rfl) (by simp) ?_
        refine AllReadyH.cons (by simp only [List.getElem?_toArray]; rfl) (fun K hK => ?_) AllReadyH.nil
        refine wanted_pos (by kernel_rfl) ?_
        go_simp
        clear hHeld
        go_at_call 32
        (with_reducible refine (eg_glyphs A2 n2 c2 _ _ 3 3 We o2 q2 hn2 (by omega)).mono ?_)
        rintro e Wz ⟨rfl, bn⟩
        go_wp2_with fail
        refine hK.out _ _ ?_ (fun hHeld => ?_)
        · exact HS.out _ (bb.trans (bn.mono bb.size))
        clear hK K
        try conv => arg 8; simp only [Act.put, List.setIfInBounds_toArray, List.set_cons_zero, List.set_cons_succ]
        replace bb := bb.trans (bn.mono bb.size)
        clear bn q2 o2
        generalize Value.slice (some ⟨g1, 0, none⟩) 3 3 = v1
        generalize Value.slice A1 3 c1 = v2
        generalize Value.slice A2 n2 c2 = v3
        generalize Value.slice (some ⟨g2, 0, none⟩) 3 3 = v4
        clear hn2
        revert hHeld
        revert bb
        revert v4
        revert v3
        revert v2
        revert v1
        revert Wz
        exact cont.go
    intro W4 v1 v2 v3 v4 bb hHeld
    refine wpAnyH_take (i := 39) (v := ?_) (by simp only [List.getElem?_toArray]; rfl) (by kernel_rfl) (by kernel_rfl) (by kernel_rfl) (by exact fun _ _ _ h => h) (Or.inl ⟨by rfl, ?_⟩) (by assumption) ?_
    rotate_left 1
    · intro w hSw; (try dsimp only at hSw); go_simp; try with_reducible rfl
    try conv => arg 8; simp only [Act.put, List.setIfInBounds_toArray, List.set_cons_zero, List.set_cons_succ]
    refine wpAnyH_take (i := 40) (v := ?_) (by simp only [List.getElem?_toArray]; rfl) (by kernel_rfl) (by kernel_rfl) (by kernel_rfl) (by exact fun _ _ _ h => h) (Or.inl ⟨by rfl, ?_⟩) (by assumption) ?_
    rotate_left 1
    · intro w hSw; (try dsimp only at hSw); go_simp; try with_reducible rfl
    try conv => arg 8; simp only [Act.put, List.setIfInBounds_toArray, List.set_cons_zero, List.set_cons_succ]
    as_aux_lemma =>
      refine wpAnyH_take (i := 41) (v := ?_) (by simp only [List.getElem?_toArray]; rfl) (by kernel_rfl) (by kernel_rfl) (by kernel_rfl) (by exact fun _ _ _ h => h) (Or.inl ⟨by rfl, ?_⟩) (by assumption) ?_
      rotate_left 1
      · intro w hSw; (try dsimp only at hSw); go_simp; try with_reducible rfl
      try conv => arg 8; simp only [Act.put, List.setIfInBounds_toArray, List.set_cons_zero, List.set_cons_succ]
      refine wpAnyH_take (i := 42) (v := ?_) (by simp only [List.getElem?_toArray]; rfl) (by kernel_rfl) (by kernel_rfl) (by kernel_rfl) (by exact fun _ _ _ h => h) (Or.inl ⟨by rfl, ?_⟩) (by assumption) ?_
      rotate_left 1
      · intro w hSw; (try dsimp only at hSw); go_simp; try with_reducible rfl
      try conv => arg 8; simp only [Act.put, List.setIfInBounds_toArray, List.set_cons_zero, List.set_cons_succ]
      refine wpAnyH_take (i := 43) (v := ?_) (by simp only [List.getElem?_toArray]; rfl) (by kernel_rfl) (by kernel_rfl) (by kernel_rfl) (by exact fun _ _ _ h => h) (Or.inl ⟨by rfl, ?_⟩) (by assumption) ?_
      rotate_left 1
      · intro w hSw; (try dsimp only at hSw); go_simp; try with_reducible rfl
      try conv => arg 8; simp only [Act.put, List.setIfInBounds_toArray, List.set_cons_zero, List.set_cons_succ]
      refine wpAnyH_take (i := 44) (v := ?_) (by simp only [List.getElem?_toArray]; rfl) (by kernel_rfl) (by kernel_rfl) (by kernel_rfl) (by exact fun _ _ _ h => h) (Or.inl ⟨by rfl, ?_⟩) (by assumption) ?_
      rotate_left 1
      · intro w hSw; (try dsimp only at hSw); go_simp; try with_reducible rfl
      try conv => arg 8; simp only [Act.put, List.setIfInBounds_toArray, List.set_cons_zero, List.set_cons_succ]
      refine wpAnyH_take (i := 45) (v := ?_) (by simp only [List.getElem?_toArray]; rfl) (by kernel_rfl) (by kernel_rfl) (by kernel_rfl) (by exact fun _ _ _ h => h) (Or.inl ⟨by rfl, ?_⟩) (by assumption) ?_
      rotate_left 1
      · intro w hSw; (try dsimp only at hSw); go_simp; try with_reducible rfl
      try conv => arg 8; simp only [Act.put, List.setIfInBounds_toArray, List.set_cons_zero, List.set_cons_succ]
      refine wpAnyH_take (i := 46) (v := ?_) (by simp only [List.getElem?_toArray]; rfl) (by kernel_rfl) (by kernel_rfl) (by kernel_rfl) (by exact fun _ _ _ h => h) (Or.inl ⟨by rfl, ?_⟩) (by assumption) ?_
      rotate_left 1
      · intro w hSw; (try dsimp only at hSw); go_simp; try with_reducible rfl
      try conv => arg 8; simp only [Act.put, List.setIfInBounds_toArray, List.set_cons_zero, List.set_cons_succ]
      refine wpAnyH_take (i := 47) (v := ?_) (by simp only [List.getElem?_toArray]; rfl) (by kernel_rfl) (by kernel_rfl) (by kernel_rfl) (by exact fun _ _ _ h => h) (Or.inl ⟨by rfl, ?_⟩) (by assumption) ?_
      rotate_left 1
      · intro w hSw; (try dsimp only at hSw); go_simp; try with_reducible rfl
      try conv => arg 8; simp only [Act.put, List.setIfInBounds_toArray, List.set_cons_zero, List.set_cons_succ]
      refine wpAnyH_take (i := 48) (v := ?_) (by simp only [List.getElem?_toArray]; rfl) (by kernel_rfl) (by kernel_rfl) (by kernel_rfl) (by exact fun _ _ _ h => h) (Or.inl ⟨by rfl, ?_⟩) (by assumption) ?_
      rotate_left 1
      · intro w hSw; (try dsimp only at hSw); go_simp; try with_reducible rfl
      try conv => arg 8; simp only [Act.put, List.setIfInBounds_toArray, List.set_cons_zero, List.set_cons_succ]
      refine wpAnyH_take (i := 49) (v := ?_) (by simp only [List.getElem?_toArray]; rfl) (by kernel_rfl) (by kernel_rfl) (by kernel_rfl) (by exact fun _ _ _ h => h) (Or.inl ⟨by rfl, ?_⟩) (by assumption) ?_
      rotate_left 1
      · intro w hSw; (try dsimp only at hSw); go_simp; try with_reducible rfl
      try conv => arg 8; simp only [Act.put, List.setIfInBounds_toArray, List.set_cons_zero, List.set_cons_succ]
      refine wpAnyH_take (i := 50) (v := ?_) (by simp only [List.getElem?_toArray]; rfl) (by kernel_rfl) (by kernel_rfl) (by kernel_rfl) (by exact fun _ _ _ h => h) (Or.inl ⟨by rfl, ?_⟩) (by assumption) ?_
      rotate_left 1
      · intro w hSw; (try dsimp only at hSw); go_simp; try with_reducible rfl
      try conv => arg 8; simp only [Act.put, List.setIfInBounds_toArray, List.set_cons_zero, List.set_cons_succ]
      refine wpAnyH_take (i := 51) (v := ?_) (by simp only [List.getElem?_toArray]; rfl) (by kernel_rfl) (by kernel_rfl) (by kernel_rfl) (by exact fun _ _ _ h => h) (Or.inl ⟨by rfl, ?_⟩) (by assumption) ?_
      rotate_left 1
      · intro w hSw; (try dsimp only at hSw); go_simp; try with_reducible rfl
      try conv => arg 8; simp only [Act.put, List.setIfInBounds_toArray, List.set_cons_zero, List.set_cons_succ]
      refine wpAnyH_take (i := 52) (v := ?_) (by simp only [List.getElem?_toArray]; rfl) (by kernel_rfl) (by kernel_rfl) (by kernel_rfl) (by exact fun _ _ _ h => h) (Or.inl ⟨by rfl, ?_⟩) (by assumption) ?_
      rotate_left 1
      · intro w hSw; (try dsimp only at hSw); go_simp; try with_reducible rfl
      try conv => arg 8; simp only [Act.put, List.setIfInBounds_toArray, List.set_cons_zero, List.set_cons_succ]
      refine wpAnyH_take (i := 53) (v := ?_) (by simp only [List.getElem?_toArray]; rfl) (by kernel_rfl) (by kernel_rfl) (by kernel_rfl) (by exact fun _ _ _ h => h) (Or.inl ⟨by rfl, ?_⟩) (by assumption) ?_
      rotate_left 1
      · intro w hSw; (try dsimp only at hSw); go_simp; try with_reducible rfl
      try conv => arg 8; simp only [Act.put, List.setIfInBounds_toArray, List.set_cons_zero, List.set_cons_succ]
      refine wpAnyH_take (i := 54) (v := ?_) (by simp only [List.getElem?_toArray]; rfl) (by kernel_rfl) (by kernel_rfl) (by kernel_rfl) (by exact fun _ _ _ h => h) (Or.inl ⟨by rfl, ?_⟩) (by assumption) ?_
      rotate_left 1
      · intro w hSw; (try dsimp only at hSw); go_simp; try with_reducible rfl
      try conv => arg 8; simp only [Act.put, List.setIfInBounds_toArray, List.set_cons_zero, List.set_cons_succ]
      refine wpAnyH_take (i := 55) (v := ?_) (by simp only [List.getElem?_toArray]; rfl) (by kernel_rfl) (by kernel_rfl) (by kernel_rfl) (by exact fun _ _ _ h => h) (Or.inl ⟨by rfl, ?_⟩) (by assumption) ?_
      rotate_left 1
      · intro w hSw; (try dsimp only at hSw); go_simp; try with_reducible rfl
      try conv => arg 8; simp only [Act.put, List.setIfInBounds_toArray, List.set_cons_zero, List.set_cons_succ]
      refine wpAnyH_take (i := 56) (v := ?_) (by simp only [List.getElem?_toArray]; rfl) (by kernel_rfl) (by kernel_rfl) (by kernel_rfl) (by exact fun _ _ _ h => h) (Or.inl ⟨by rfl, ?_⟩) (by assumption) ?_
      rotate_left 1
      · intro w hSw; (try dsimp only at hSw); go_simp; try with_reducible rfl
      try conv => arg 8; simp only [Act.put, List.setIfInBounds_toArray, List.set_cons_zero, List.set_cons_succ]
      refine wpAnyH_take (i := 57) (v := ?_) (by simp only [List.getElem?_toArray]; rfl) (by kernel_rfl) (by kernel_rfl) (by kernel_rfl) (by exact fun _ _ _ h => h) (Or.inl ⟨by rfl, ?_⟩) (by assumption) ?_
      rotate_left 1
      · intro w hSw; (try dsimp only at hSw); go_simp; try with_reducible rfl
      try conv => arg 8; simp only [Act.put, List.setIfInBounds_toArray, List.set_cons_zero, List.set_cons_succ]
      refine wpAnyH_take (i := 58) (v := ?_) (by simp only [List.getElem?_toArray]; rfl) (by kernel_rfl) (by kernel_rfl) (by kernel_rfl) (by exact fun _ _ _ h => h) (Or.inl ⟨by rfl, ?_⟩) (by assumption) ?_
      rotate_left 1
      · intro w hSw; (try dsimp only at hSw); go_simp; try with_reducible rfl
      try conv => arg 8; simp only [Act.put, List.setIfInBounds_toArray, List.set_cons_zero, List.set_cons_succ]
      refine wpAnyH_take (i := 59) (v := ?_) (by simp only [List.getElem?_toArray]; rfl) (by kernel_rfl) (by kernel_rfl) (by kernel_rfl) (by exact fun _ _ _ h => h) (Or.inl ⟨by rfl, ?_⟩) (by assumption) ?_
      rotate_left 1
      · intro w hSw; (try dsimp only at hSw); go_simp; try with_reducible rfl
      try conv => arg 8; simp only [Act.put, List.setIfInBounds_toArray, List.set_cons_zero, List.set_cons_succ]
      refine wpAnyH_take (i := 60) (v := ?_) (by simp only [List.getElem?_toArray]; rfl) (by kernel_rfl) (by kernel_rfl) (by kernel_rfl) (by exact fun _ _ _ h => h) (Or.inl ⟨by rfl, ?_⟩) (by assumption) ?_
      rotate_left 1
      · intro w hSw; (try dsimp only at hSw); go_simp; try with_reducible rfl
      try conv => arg 8; simp only [Act.put, List.setIfInBounds_toArray, List.set_cons_zero, List.set_cons_succ]
      refine wpAnyH_take (i := 61) (v := ?_) (by simp only [List.getElem?_toArray]; rfl) (by kernel_rfl) (by kernel_rfl) (by kernel_rfl) (by exact fun _ _ _ h => h) (Or.inl ⟨by rfl, ?_⟩) (by assumption) ?_
      rotate_left 1
      · intro w hSw; (try dsimp only at hSw); go_simp; try with_reducible rfl
      try conv => arg 8; simp only [Act.put, List.setIfInBounds_toArray, List.set_cons_zero, List.set_cons_succ]
      refine wpAnyH_take (i := 62) (v := ?_) (by simp only [List.getElem?_toArray]; rfl) (by kernel_rfl) (by kernel_rfl) (by kernel_rfl) (by exact fun _ _ _ h => h) (Or.inl ⟨by rfl, ?_⟩) (by assumption) ?_
      rotate_left 1
      · intro w hSw; (try dsimp only at hSw); go_simp; try with_reducible rfl
      try conv => arg 8; simp only [Act.put, List.setIfInBounds_toArray, List.set_cons_zero, List.set_cons_succ]
      revert hHeld
      revert bb
      refine Wrap.out ?_
      apply later
      · intro cont bb hHeld
        refine wpAnyH_ready (rs := [63, 66]) (by kernel_rfl) (by simp) ?_
        refine AllReadyH.cons (by simp only [List.getElem?_toArray]; rfl) (fun K hK => ?_) (AllReadyH.cons (by simp only [List.getElem?_toArray]; rfl) (fun K hK => ?_) AllReadyH.nil)
        · refine wanted_pos (by kernel_rfl) ?_
          go_simp
          clear hHeld
          refine hK.out _ _ ?_ (fun hHeld => ?_)
          · exact HS.out _ (below_lit _ _ bb _)
          clear hK K
          try conv => arg 8; simp only [Act.put, List.setIfInBounds_toArray, List.set_cons_zero, List.set_cons_succ]
          have bn : Below W4.heap.size W4 (W4.alloc (.cells #[.int .i64 0] 3)) := (Below.refl _ _).alloc (Nat.le_refl _) _
          replace bb := below_lit _ _ bb (.cells #[.int .i64 0] 3)
          have q1 : Rd (W4.alloc (.cells #[.int .i64 0] 3)) (lo (W4.alloc (.cells #[.int .i64 0] 3)).heap.size) (some ⟨W4.heap.size, 0, none⟩) 1 [0] := rd_lit W4 [0]
          clear bn
          generalize W4.alloc (.cells #[.int .i64 0] 3) = Wb at *
          generalize W4.heap.size = g1 at *
          refine wpAnyH_ready (rs := [64, 66]) (by kernel_rfl) (by simp) ?_
          refine AllReadyH.cons (by simp only [List.getElem?_toArray]; rfl) (fun K hK => ?_) (AllReadyH.cons (by simp only [List.getElem?_toArray]; rfl) (fun K hK => ?_) AllReadyH.nil)
          · refine wanted_pos (by kernel_rfl) ?_
            go_simp
            clear hHeld
            go_at_call 31
            (with_reducible refine (run_c _ _ _ [0] Wb q1 (by omega)).mono ?_)
            rintro e Wc ⟨A1, c1, rfl, o1, bn⟩
            go_wp2_with fail
            refine hK.out _ _ ?_ (fun hHeld => ?_)
            · exact HS.out _ (bb.trans (bn.mono bb.size))
            clear hK K
            try conv => arg 8; simp only [Act.put, List.setIfInBounds_toArray, List.set_cons_zero, List.set_cons_succ]
            replace bb := bb.trans (bn.mono bb.size)
            clear bn q1
            refine wpAnyH_ready (rs := [65, 66]) (by kernel_rfl) (by simp) ?_
            refine AllReadyH.cons (by simp only [List.getElem?_toArray]; rfl) (fun K hK => ?_) (AllReadyH.cons (by simp only [List.getElem?_toArray]; rfl) (fun K hK => ?_) AllReadyH.nil)
            · refine wanted_pos (by kernel_rfl) ?_
              go_simp
              clear hHeld
              go_at_call 18
              (with_reducible refine (eg_apply f 9 A1 1 c1 _ _ Wc (hf.call bb) o1.rdI (by omega) eg_9).mono ?_)
              rintro e Wd ⟨A2, n2, c2, rfl, o2, hn2, bn⟩
              go_wp2_with fail
              refine hK.out _ _ ?_ (fun hHeld => ?_)
              · exact HS.out _ (bb.trans (bn.mono bb.size))
              clear hK K
              try conv => arg 8; simp only [Act.put, List.setIfInBounds_toArray, List.set_cons_zero, List.set_cons_succ]
              replace bb := bb.trans (bn.mono bb.size)
              clear bn o1
              refine wpAnyH_ready (rs := [66]) (by kernel_rfl) (by simp) ?_
              refine AllReadyH.cons (by simp only [List.getElem?_toArray]; rfl) (fun K hK => ?_) AllReadyH.nil
              refine wanted_pos (by kernel_rfl) ?_
              go_simp
              clear hHeld
              refine hK.out _ _ ?_ (fun hHeld => ?_)
              · exact HS.out _ (below_lit _ _ bb _)
              clear hK K
              try conv => arg 8; simp only [Act.put, List.setIfInBounds_toArray, List.set_cons_zero, List.set_cons_succ]
              have bn : Below Wd.heap.size Wd (Wd.alloc (.cells #[.int .i64 0] 3)) := (Below.refl _ _).alloc (Nat.le_refl _) _
              replace bb := below_lit _ _ bb (.cells #[.int .i64 0] 3)
              have q2 : Rd (Wd.alloc (.cells #[.int .i64 0] 3)) (lo (Wd.alloc (.cells #[.int .i64 0] 3)).heap.size) (some ⟨Wd.heap.size, 0, none⟩) 1 [0] := rd_lit Wd [0]
              replace o2 := o2.call bn
              clear bn
              generalize Wd.alloc (.cells #[.int .i64 0] 3) = We at *
              generalize Wd.heap.size = g2 at *
              refine wpAnyH_ready (rs := [67]) (by kernel_rfl) (by simp) ?_
              refine AllReadyH.cons (by simp only [List.getElem?_toArray]; rfl) (fun K hK => ?_) AllReadyH.nil
              refine wanted_pos (by kernel_rfl) ?_
              go_simp
              clear hHeld
              go_at_call 32
              (with_reducible refine (eg_glyphs A2 n2 c2 _ _ 1 1 We o2 q2 hn2 (by omega)).mono ?_)
              rintro e Wz ⟨rfl, bn⟩
              go_wp2_with fail
              refine hK.out _ _ ?_ (fun hHeld => ?_)
              · exact HS.out _ (bb.trans (bn.mono bb.size))
              clear hK K
              try conv => arg 8; simp only [Act.put, List.setIfInBounds_toArray, List.set_cons_zero, List.set_cons_succ]
              replace bb := bb.trans (bn.mono bb.size)
              clear bn q2 o2
              generalize Value.slice (some ⟨g1, 0, none⟩) 1 1 = v1
              generalize Value.slice A1 1 c1 = v2
              generalize Value.slice A2 n2 c2 = v3
              generalize Value.slice (some ⟨g2, 0, none⟩) 1 1 = v4
              clear hn2
              revert hHeld
              revert bb
              revert v4
              revert v3
              revert v2
              revert v1
              revert Wz
              exact cont.go
            · refine wanted_pos (by kernel_rfl) ?_
              go_simp
              clear hHeld
              refine hK.out _ _ ?_ (fun hHeld => ?_)
              · exact HS.out _ (below_lit _ _ bb _)
              clear hK K
              try conv => arg 8; simp only [Act.put, List.setIfInBounds_toArray, List.set_cons_zero, List.set_cons_succ]
              have bn : Below Wc.heap.size Wc (Wc.alloc (.cells #[.int .i64 0] 3)) := (Below.refl _ _).alloc (Nat.le_refl _) _
              replace o1 := o1.call bn
              replace bb := below_lit _ _ bb (.cells #[.int .i64 0] 3)
              have q2 : Rd (Wc.alloc (.cells #[.int .i64 0] 3)) (lo (Wc.alloc (.cells #[.int .i64 0] 3)).heap.size) (some ⟨Wc.heap.size, 0, none⟩) 1 [0] := rd_lit Wc [0]
              clear bn
              generalize Wc.alloc (.cells #[.int .i64 0] 3) = Wd at *
              generalize Wc.heap.size = g2 at *
              refine wpAnyH_ready (rs := [65]) (by kernel_rfl) (by simp) ?_
              refine AllReadyH.cons (by simp only [List.getElem?_toArray]; rfl) (fun K hK => ?_) AllReadyH.nil
              refine wanted_pos (by kernel_rfl) ?_
              go_simp
              clear hHeld
              go_at_call 18
              (with_reducible refine (eg_apply f 9 A1 1 c1 _ _ Wd (hf.call bb) o1.rdI (by omega) eg_9).mono ?_)
              rintro e We ⟨A2, n2, c2, rfl, o2, hn2, bn⟩
              go_wp2_with fail
              refine hK.out _ _ ?_ (fun hHeld => ?_)
              · exact HS.out _ (bb.trans (bn.mono bb.size))
              clear hK K
              try conv => arg 8; simp only [Act.put, List.setIfInBounds_toArray, List.set_cons_zero, List.set_cons_succ]
              replace q2 := q2.call bn
              replace bb := bb.trans (bn.mono bb.size)
              clear bn o1
              refine wpAnyH_ready (rs := [67]) (by kernel_rfl) (by simp) ?_
              refine AllReadyH.cons (by simp only [List.getElem?_toArray]; rfl) (fun K hK => ?_) AllReadyH.nil
              refine wanted_pos (by kernel_rfl) ?_
              go_simp
              clear hHeld
              go_at_call 32
              (with_reducible refine (eg_glyphs A2 n2 c2 _ _ 1 1 We o2 q2 hn2 (by omega)).mono ?_)
              rintro e Wz ⟨rfl, bn⟩
              go_wp2_with fail
              refine hK.out _ _ ?_ (fun hHeld => ?_)
              · exact HS.out _ (bb.trans (bn.mono bb.size))
              clear hK K
              try conv => arg 8; simp only [Act.put, List.setIfInBounds_toArray, List.set_cons_zero, List.set_cons_succ]
              replace bb := bb.trans (bn.mono bb.size)
              clear bn q2 o2
              generalize Value.slice (some ⟨g1, 0, none⟩) 1 1 = v1
              generalize Value.slice A1 1 c1 = v2
              generalize Value.slice A2 n2 c2 = v3
              generalize Value.slice (some ⟨g2, 0, none⟩) 1 1 = v4
              clear hn2
              revert hHeld
              revert bb
              revert v4
              revert v3
              revert v2
              revert v1
              revert Wz
              exact cont.go
          · refine wanted_pos (by kernel_rfl) ?_
            go_simp
            clear hHeld
            refine hK.out _ _ ?_ (fun hHeld => ?_)
            · exact HS.out _ (below_lit _ _ bb _)
            clear hK K
            try conv => arg 8; simp only [Act.put, List.setIfInBounds_toArray, List.set_cons_zero, List.set_cons_succ]
            have bn : Below Wb.heap.size Wb (Wb.alloc (.cells #[.int .i64 0] 3)) := (Below.refl _ _).alloc (Nat.le_refl _) _
            replace q1 := q1.call bn
            replace bb := below_lit _ _ bb (.cells #[.int .i64 0] 3)
            have q2 : Rd (Wb.alloc (.cells #[.int .i64 0] 3)) (lo (Wb.alloc (.cells #[.int .i64 0] 3)).heap.size) (some ⟨Wb.heap.size, 0, none⟩) 1 [0] := rd_lit Wb [0]
            clear bn
            generalize Wb.alloc (.cells #[.int .i64 0] 3) = Wc at *
            generalize Wb.heap.size = g2 at *
            refine wpAnyH_ready (rs := [64]) (by kernel_rfl) (by simp) ?_
            refine AllReadyH.cons (by simp only [List.getElem?_toArray]; rfl) (fun K hK => ?_) AllReadyH.nil
            refine wanted_pos (by kernel_rfl) ?_
            go_simp
            clear hHeld
            go_at_call 31
            (with_reducible refine (run_c _ _ _ [0] Wc q1 (by omega)).mono ?_)
            rintro e Wd ⟨A1, c1, rfl, o1, bn⟩
            go_wp2_with fail
            refine hK.out _ _ ?_ (fun hHeld => ?_)
            · exact HS.out _ (bb.trans (bn.mono bb.size))
            clear hK K
            try conv => arg 8; simp only [Act.put, List.setIfInBounds_toArray, List.set_cons_zero, List.set_cons_succ]
            replace q2 := q2.call bn
            replace bb := bb.trans (bn.mono bb.size)
            clear bn q1
            refine wpAnyH_ready (rs := [65]) (by kernel_rfl) (by simp) ?_
            refine AllReadyH.cons (by simp only [List.getElem?_toArray]; rfl) (fun K hK => ?_) AllReadyH.nil
            refine wanted_pos (by kernel_rfl) ?_
            go_simp
            clear hHeld
            go_at_call 18
            (with_reducible refine (eg_apply f 9 A1 1 c1 _ _ Wd (hf.call bb) o1.rdI (by omega) eg_9).mono ?_)
            rintro e We ⟨A2, n2, c2, rfl, o2, hn2, bn⟩
            go_wp2_with fail
            refine hK.out _ _ ?_ (fun hHeld => ?_)
            · exact HS.out _ (bb.trans (bn.mono bb.size))
            clear hK K
            try conv => arg 8; simp only [Act.put, List.setIfInBounds_toArray, List.set_cons_zero, List.set_cons_succ]
            replace q2 := q2.call bn
            replace bb := bb.trans (bn.mono bb.size)
            clear bn o1
            refine wpAnyH_ready (rs := [67]) (by kernel_rfl) (by simp) ?_
            refine AllReadyH.cons (by simp only [List.getElem?_toArray]; rfl) (fun K hK => ?_) AllReadyH.nil
            refine wanted_pos (by kernel_rfl) ?_
            go_simp
            clear hHeld
            go_at_call 32
            (with_reducible refine (eg_glyphs A2 n2 c2 _ _ 1 1 We o2 q2 hn2 (by omega)).mono ?_)
            rintro e Wz ⟨rfl, bn⟩
            go_wp2_with fail
            refine hK.out _ _ ?_ (fun hHeld => ?_)
            · exact HS.out _ (bb.trans (bn.mono bb.size))
            clear hK K
            try conv => arg 8; simp only [Act.put, List.setIfInBounds_toArray, List.set_cons_zero, List.set_cons_succ]
            replace bb := bb.trans (bn.mono bb.size)
            clear bn q2 o2
            generalize Value.slice (some ⟨g1, 0, none⟩) 1 1 = v1
            generalize Value.slice A1 1 c1 = v2
            generalize Value.slice A2 n2 c2 = v3
            generalize Value.slice (some ⟨g2, 0, none⟩) 1 1 = v4
            clear hn2
            revert hHeld
            revert bb
            revert v4
            revert v3
            revert v2
            revert v1
            revert Wz
            exact cont.go
        · refine wanted_pos (by kernel_rfl) ?_
          go_simp
          clear hHeld
          refine hK.out _ _ ?_ (fun hHeld => ?_)
          · exact HS.out _ (below_lit _ _ bb _)
          clear hK K
          try conv => arg 8; simp only [Act.put, List.setIfInBounds_toArray, List.set_cons_zero, List.set_cons_succ]
          have bn : Below W4.heap.size W4 (W4.alloc (.cells #[.int .i64 0] 3)) := (Below.refl _ _).alloc (Nat.le_refl _) _
          replace bb := below_lit _ _ bb (.cells #[.int .i64 0] 3)
          have q2 : Rd (W4.alloc (.cells #[.int .i64 0] 3)) (lo (W4.alloc (.cells #[.int .i64 0] 3)).heap.size) (some ⟨W4.heap.size, 0, none⟩) 1 [0] := rd_lit W4 [0]
          clear bn
          generalize W4.alloc (.cells #[.int .i64 0] 3) = Wb at *
          generalize W4.heap.size = g2 at *
          refine wpAnyH_ready (rs := [63]) (by kernel_rfl) (by simp) ?_
          refine AllReadyH.cons (by simp only [List.getElem?_toArray]; rfl) (fun K hK => ?_) AllReadyH.nil
          refine wanted_pos (by kernel_rfl) ?_
          go_simp
          clear hHeld
          refine hK.out _ _ ?_ (fun hHeld => ?_)
          · exact HS.out _ (below_lit _ _ bb _)
          clear hK K
          try conv => arg 8; simp only [Act.put, List.setIfInBounds_toArray, List.set_cons_zero, List.set_cons_succ]
          have bn : Below Wb.heap.size Wb (Wb.alloc (.cells #[.int .i64 0] 3)) := (Below.refl _ _).alloc (Nat.le_refl _) _
          replace q2 := q2.call bn
          replace bb := below_lit _ _ bb (.cells #[.int .i64 0] 3)
          have q1 : Rd (Wb.alloc (.cells #[.int .i64 0] 3)) (lo (Wb.alloc (.cells #[.int .i64 0] 3)).heap.size) (some ⟨Wb.heap.size, 0, none⟩) 1 [0] := rd_lit Wb [0]
          clear bn
          generalize Wb.alloc (.cells #[.int .i64 0] 3) = Wc at *
          generalize Wb.heap.size = g1 at *
          refine wpAnyH_ready (rs := [64]) (by kernel_rfl) (by simp) ?_
          refine AllReadyH.cons (by simp only [List.getElem?_toArray]; rfl) (fun K hK => ?_) AllReadyH.nil
          refine wanted_pos (by kernel_rfl) ?_
          go_simp
          clear hHeld
          go_at_call 31
          (with_reducible refine (run_c _ _ _ [0] Wc q1 (by omega)).mono ?_)
          rintro e Wd ⟨A1, c1, rfl, o1, bn⟩
          go_wp2_with fail
          refine hK.out _ _ ?_ (fun hHeld => ?_)
          · exact HS.out _ (bb.trans (bn.mono bb.size))
          clear hK K
          try conv => arg 8; simp only [Act.put, List.setIfInBounds_toArray, List.set_cons_zero, List.set_cons_succ]
          replace q2 := q2.call bn
          replace bb := bb.trans (bn.mono bb.size)
          clear bn q1
          refine wpAnyH_ready (rs := [65]) (by kernel_rfl) (by simp) ?_
          refine AllReadyH.cons (by simp only [List.getElem?_toArray]; rfl) (fun K hK => ?_) AllReadyH.nil
          refine wanted_pos (by kernel_rfl) ?_
          go_simp
          clear hHeld
          go_at_call 18
          (with_reducible refine (eg_apply f 9 A1 1 c1 _ _ Wd (hf.call bb) o1.rdI (by omega) eg_9).mono ?_)
          rintro e We ⟨A2, n2, c2, rfl, o2, hn2, bn⟩
          go_wp2_with fail
          refine hK.out _ _ ?_ (fun hHeld => ?_)
          · exact HS.out _ (bb.trans (bn.mono bb.size))
          clear hK K
          try conv => arg 8; simp only [Act.put, List.setIfInBounds_toArray, List.set_cons_zero, List.set_cons_succ]
          replace q2 := q2.call bn
          replace bb := bb.trans (bn.mono bb.size)
          clear bn o1
          refine wpAnyH_ready (rs := [67]) (by kernel_rfl) (by simp) ?_
          refine AllReadyH.cons (by simp only [List.getElem?_toArray]; rfl) (fun K hK => ?_) AllReadyH.nil
          refine wanted_pos (by kernel_rfl) ?_
          go_simp
          clear hHeld
          go_at_call 32
          (with_reducible refine (eg_glyphs A2 n2 c2 _ _ 1 1 We o2 q2 hn2 (by omega)).mono ?_)
          rintro e Wz ⟨rfl, bn⟩
          go_wp2_with fail
          refine hK.out _ _ ?_ (fun hHeld => ?_)
          · exact HS.out _ (bb.trans (bn.mono bb.size))
          clear hK K
          try conv => arg 8; simp only [Act.put, List.setIfInBounds_toArray, List.set_cons_zero, List.set_cons_succ]
          replace bb := bb.trans (bn.mono bb.size)
          clear bn q2 o2
          generalize Value.slice (some ⟨g1, 0, none⟩) 1 1 = v1
          generalize Value.slice A1 1 c1 = v2
          generalize Value.slice A2 n2 c2 = v3
          generalize Value.slice (some ⟨g2, 0, none⟩) 1 1 = v4
          clear hn2
          revert hHeld
          revert bb
          revert v4
          revert v3
          revert v2
          revert v1
          revert Wz
          exact cont.go
      intro W5 v1 v2 v3 v4 bb hHeld
      refine wpAnyH_take (i := 68) (v := ?_) (by simp only [List.getElem?_toArray]; rfl) (by kernel_rfl) (by kernel_rfl) (by kernel_rfl) (by exact fun _ _ _ h => h) (Or.inl ⟨by rfl, ?_⟩) (by assumption) ?_
      rotate_left 1
      · intro w hSw; (try dsimp only at hSw); go_simp; try with_reducible rfl
      try conv => arg 8; simp only [Act.put, List.setIfInBounds_toArray, List.set_cons_zero, List.set_cons_succ]
      refine wpAnyH_take (i := 69) (v := ?_) (by simp only [List.getElem?_toArray]; rfl) (by kernel_rfl) (by kernel_rfl) (by kernel_rfl) (by exact fun _ _ _ h => h) (Or.inl ⟨by rfl, ?_⟩) (by assumption) ?_
      rotate_left 1
      · intro w hSw; (try dsimp only at hSw); go_simp; try with_reducible rfl
      try conv => arg 8; simp only [Act.put, List.setIfInBounds_toArray, List.set_cons_zero, List.set_cons_succ]
      refine wpAnyH_done (by kernel_rfl) ?_ _
      have hK0 := HK0.out
      go_wp2
      go_ret
      exact ⟨rfl, below_call bw bb⟩

end Go.Proofs.Ytkoocipagndclaa
