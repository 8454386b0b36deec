/- Walks: few. -/
import Derived.Test.YtgcmedkaadagmaaDoorTk
import Derived.Test.YtgcmedkaadagmaaDoorL6
import Derived.Deep.DeepCutAuto
namespace Go.Proofs.YtgcmedkaadagmaaDoor
open Go.RowKit Go.Shelf Go.Maps

structure Wrap (G : Prop) : Prop where
 out : G
structure Cont (C : Prop) : Prop where
 go : C
theorem later {C G : Prop} (h : Cont C → G) (c : C) : Wrap G := ⟨h ⟨c⟩⟩
theorem uc_len1 (xs : List Nat) : (uc xs).length = xs.length * 1 := by simp [uc]
theorem ic_take_len {xs : List Int} {n m k : Nat} (h : xs.length = n) (hm : m = min n k) : (ic (xs.take k)).length = m * 1 := by rw [ic_len, List.length_take]; omega
theorem uc_take_len {xs : List Nat} {n m k : Nat} (h : xs.length = n) (hm : m = min n k) : (uc (xs.take k)).length = m * 1 := by rw [uc_len1, List.length_take]; omega
theorem take_min {α : Type} (xs : List α) {n k : Nat} (h : xs.length = n) : xs.take k = xs.take (min n k) := by
 by_cases hk : k ≤ n
 ·rw [Nat.min_eq_right hk]
 ·rw [Nat.min_eq_left (by omega), List.take_of_length_le (by omega), List.take_of_length_le (by omega)]

theorem Ow.ne_new {e k : Nat} {w : World} {base n c : Nat} {A : Option Addr} {cs : List Value} (h : Ow e k w base A n c cs) : ∀ b, A.map (·.block) = some b → (some (⟨w.heap.size, 0, none⟩ : Addr)).map (·.block) ≠ some b := fun b q1 q2 => by
 have q3 := (h.blk b q1).2.1
 injection q2 with q2
 dsimp only at q2
 omega
theorem ne_symm {A B : Option Addr} (h : ∀ b, A.map (·.block) = some b → B.map (·.block) ≠ some b) : ∀ b, B.map (·.block) = some b → A.map (·.block) ≠ some b := fun b q1 q2 => h b q2 q1
theorem ne_app {A A' B : Option Addr} {s : Nat} (h : ∀ b, A.map (·.block) = some b → B.map (·.block) ≠ some b) (hat : A'.map (·.block) = A.map (·.block) ∨ A'.map (·.block) = some s) (hB : ∀ b, B.map (·.block) = some b → b < s) : ∀ b, A'.map (·.block) = some b → B.map (·.block) ≠ some b := fun b q1 q2 => by
 rcases hat with e | e
 ·exact h b (by rw [← e]; exact q1) q2
 ·rw [e] at q1
  injection q1 with q1
  have := hB b q2
  omega
theorem rd_block {w : World} {base n c : Nat} {A : Option Addr} {xs : List Int} {D : Nat → Prop} (h : Ow 3 1 w base A n c (ic xs)) (hD : ∀ b, A.map (·.block) = some b → D b) : Rd w D A n xs := by
 have hr := h.rd
 refine ⟨hr.1, fun hn => ?_⟩
 obtain ⟨b, o, e, _, hc⟩ := hr.2 hn
 exact ⟨b, o, e, hD b (by rw [e]; rfl), hc⟩
theorem rdU_block {w : World} {base n c k : Nat} {A : Option Addr} {xs : List Nat} {D : Nat → Prop} (h : Ow 50 1 w base A n c (uc (xs.take k))) (hs : ∀ x ∈ xs, x < 18446744073709551616) (hD : ∀ b, A.map (·.block) = some b → D b) : RdU w D A n (xs.take k) :=
 h.rdU (fun x hx => hs x (List.mem_of_mem_take hx)) D (fun b e => hD b (by rw [e]; rfl))
theorem few_end {w2 W : World} {gA m1 c1 m2 c2 m3 c3 : Nat} {A1 A2 A3 : Option Addr} {x1 : List Int} {x2 x3 : List Nat} (bb : Below w2.heap.size w2 W) (hg : w2.heap.size ≤ gA) (kA : Bk W gA 38 #[.slice none 0 0, .slice none 0 0, .slice none 0 0, .slice none 0 0, .slice none 0 0]) (e1 : Ow 3 1 W w2.heap.size A1 m1 c1 (ic x1)) (e2 : Ow 50 1 W w2.heap.size A2 m2 c2 (uc x2)) (e3 : Ow 50 1 W w2.heap.size A3 m3 c3 (uc x3)) :
  ∃ (gB : Nat) (B1 : Option Addr) (d1 : Nat) (B2 : Option Addr) (d2 : Nat) (B3 : Option Addr) (d3 : Nat), Value.pointer (some ⟨gA, 0, none⟩) = .pointer (some ⟨gB, 0, none⟩) ∧ w2.heap.size ≤ gB ∧ Bk (store5 W gA (.slice A1 m1 c1) (.slice none 0 0) (.slice none 0 0) (.slice A2 m2 c2) (.slice A3 m3 c3)) gB 38 #[.slice B1 m1 d1, .slice none 0 0, .slice none 0 0, .slice B2 m2 d2, .slice B3 m3 d3] ∧ Ow 3 1 (store5 W gA (.slice A1 m1 c1) (.slice none 0 0) (.slice none 0 0) (.slice A2 m2 c2) (.slice A3 m3 c3)) w2.heap.size B1 m1 d1 (ic x1) ∧ Ow 50 1 (store5 W gA (.slice A1 m1 c1) (.slice none 0 0) (.slice none 0 0) (.slice A2 m2 c2) (.slice A3 m3 c3)) w2.heap.size B2 m2 d2 (uc x2) ∧ Ow 50 1 (store5 W gA (.slice A1 m1 c1) (.slice none 0 0) (.slice none 0 0) (.slice A2 m2 c2) (.slice A3 m3 c3)) w2.heap.size B3 m3 d3 (uc x3) ∧ Below w2.heap.size w2 (store5 W gA (.slice A1 m1 c1) (.slice none 0 0) (.slice none 0 0) (.slice A2 m2 c2) (.slice A3 m3 c3)) := by
 have kk := (store5_kept (S := fun _ => True) (W := W) gA (.slice A1 m1 c1) (.slice none 0 0) (.slice none 0 0) (.slice A2 m2 c2) (.slice A3 m3 c3)).1
 have far : ∀ b, b ≠ gA → (store5 W gA (.slice A1 m1 c1) (.slice none 0 0) (.slice none 0 0) (.slice A2 m2 c2) (.slice A3 m3 c3)).heap[b]? = W.heap[b]? := fun b hb => kk b ⟨trivial, hb⟩
 refine ⟨gA, A1, c1, A2, c2, A3, c3, rfl, hg, store5_bk kA _ _ _ _ _, e1.keep fun b e => far b ?_, e2.keep fun b e => far b ?_, e3.keep fun b e => far b ?_, store5_below bb hg _ _ _ _ _⟩
 ·exact fun e2 => kA.ne_own (by decide) e1 (by rw [e, e2]; rfl)
 ·exact fun e3 => kA.ne_own (by decide) e2 (by rw [e, e3]; rfl)
 ·exact fun e4 => kA.ne_own (by decide) e3 (by rw [e, e4]; rfl)

theorem FwL.rd2 {w W : World} {B gA n c : Nat} {D : Nat → Prop} {A : Option Addr} {css : List (List Value)} {xss : List (List Int)} (h : FwL w W B gA D A n c css xss) : RdV W (fun b => D b ∨ A.map (·.block) = some b) A n xss := by
 have h1 := h.ow.row h.rw (by omega)
 refine ⟨h1.1, fun hn => ?_⟩
 obtain ⟨b, o, e, _, hc⟩ := h1.2 hn
 refine ⟨b, o, e, .inr (by rw [e]; rfl), fun i x hx => ?_⟩
 obtain ⟨cs, he, h2⟩ := hc i x hx
 exact ⟨cs, he.mono (fun b hd => .inl hd) (Kept.refl _ _), h2⟩

theorem few_isA {W W' : World} {B : Nat} {D : Nat → Prop} {a : Au} {A1 AF AB A2 A3 : Option Addr} {m1 c1 nF cF nB cB m2 c2 m3 c3 : Nat} (hB' : ∀ b, D b → B ≤ b) (hP : ∀ b, D b → Plain W b) (hD : ∀ b, D b → b < W.heap.size) (hk : Kept D W W') (hs : W.heap.size ≤ W'.heap.size)
  (h1 : Rd W D A1 m1 (a.cls.take 12)) (hF : RdV W D AF nF ((a.fore.take 8).map (·.take 8))) (hB : RdV W D AB nB ((a.back.take 8).map (·.take 8))) (h2 : RdU W D A2 m2 (a.fe.take 9)) (h3 : RdU W D A3 m3 (a.be.take 9)) (q1 : Hd m1 c1) (qF : Hd nF cF) (qB : Hd nB cB) (q2 : Hd m2 c2) (q3 : Hd m3 c3) :
  IsA W' (fun b => B ≤ b ∧ b < W'.heap.size ∧ Plain W' b) ⟨A1, m1, c1, AF, nF, cF, AB, nB, cB, A2, m2, c2, A3, m3, c3⟩ (fewA a) := by
 have hS : ∀ b, D b → B ≤ b ∧ b < W'.heap.size ∧ Plain W' b := fun b hd => ⟨hB' b hd, Nat.lt_of_lt_of_le (hD b hd) hs, (hP b hd).eq (hk b hd)⟩
 exact ⟨⟨h1.mono hS hk, hF.mono hS hk, h2.mono hS hk, q1, qF, q2⟩, ⟨h1.mono hS hk, hB.mono hS hk, h3.mono hS hk, q1, qB, q3⟩⟩

set_option maxRecDepth 100000 in
set_option maxHeartbeats 8000000 in
theorem fewP_c (v : AV) (a : Au) (w : World) (h : IsA w (lo w.heap.size) v a) :
  Calls Tryd.prog 22 #[.agg v.cells] w fun e w' => ∃ v' : AV, e = .returned (.agg v'.cells) ∧ IsA w' (fun b => w.heap.size ≤ b ∧ b < w'.heap.size ∧ Plain w' b) v' (fewA a) ∧ Below w.heap.size w w' := by
 have b1 : Below w.heap.size w ((w.alloc (.cells #[.slice v.ca v.cn v.cc, .slice v.fa v.fn v.fc, .slice v.ba v.bn v.bc, .slice v.ea v.en v.ec, .slice v.ga v.gn v.gc] 38)).alloc (.cells #[.slice none 0 0, .slice none 0 0, .slice none 0 0, .slice none 0 0, .slice none 0 0] 38)) := below_lit _ _ (below_lit _ _ (Below.refl _ _) _) _
 have kx := (Bk.new w 38 #[.slice v.ca v.cn v.cc, .slice v.fa v.fn v.fc, .slice v.ba v.bn v.bc, .slice v.ea v.en v.ec, .slice v.ga v.gn v.gc]).alloc (.cells #[.slice none 0 0, .slice none 0 0, .slice none 0 0, .slice none 0 0, .slice none 0 0] 38)
 have kt := Bk.new (w.alloc (.cells #[.slice v.ca v.cn v.cc, .slice v.fa v.fn v.fc, .slice v.ba v.bn v.bc, .slice v.ea v.en v.ec, .slice v.ga v.gn v.gc] 38)) 38 #[.slice none 0 0, .slice none 0 0, .slice none 0 0, .slice none 0 0, .slice none 0 0]
 rw [World.size_alloc] at kt
 have HV := Lib.hid fun (W : World) (bW : Below w.heap.size w W) => h.call bW
 have HD1 := Lib.hid h.1.hc; have HD2 := Lib.hid h.1.he; have HD3 := Lib.hid h.2.he; have HD4 := Lib.hid h.1.ht; have HD5 := Lib.hid h.2.ht
 have hl1 : a.cls.length = v.cn := h.1.c.len
 obtain ⟨m1, hm1⟩ : ∃ m : Nat, m = min v.cn 12 := ⟨_, rfl⟩
 have m1a : min (v.cn : Int) 12 = (m1 : Int) := by omega
 have m1b : (if (12 : Int) < (v.cn : Int) then (12 : Int) else (v.cn : Int)) = (m1 : Int) := by split <;> omega
 have m1z : (0 : Int) ≤ (m1 : Int) := by omega
 have hm1c : (m1 : Int) ≤ (v.cc : Int) := by have h1 : v.cn ≤ v.cc := h.1.hc.1; omega
 have hm1d : v.cc ≤ 9223372036854775807 := h.1.hc.2
 have HL1 := Lib.hid (ic_take_len (k := 12) hl1 hm1)
 have HR1 := Lib.hid fun (W : World) (bW : Below w.heap.size w W) => (show 0 < m1 → ∃ b o, v.ca = some ⟨b, o, none⟩ ∧ ∀ j u, (ic (a.cls.take 12))[j]? = some u → W.cell? ⟨b, o + j, none⟩ = some u from by
  have h1 := (h.call bW).1.c.take m1 (by rw [hm1]; exact Nat.min_le_left _ _)
  have h2 := rd_news (show Rd W (lo W.heap.size) v.ca m1 (a.cls.take m1) from h1)
  rw [take_min a.cls hl1, ← hm1]
  exact h2)
 have hl2 : a.fe.length = v.en := h.1.e.len
 obtain ⟨m2, hm2⟩ : ∃ m : Nat, m = min v.en 9 := ⟨_, rfl⟩
 have m2a : min (v.en : Int) 9 = (m2 : Int) := by omega
 have m2b : (if (9 : Int) < (v.en : Int) then (9 : Int) else (v.en : Int)) = (m2 : Int) := by split <;> omega
 have m2z : (0 : Int) ≤ (m2 : Int) := by omega
 have hm2c : (m2 : Int) ≤ (v.ec : Int) := by have h1 : v.en ≤ v.ec := h.1.he.1; omega
 have hm2d : v.ec ≤ 9223372036854775807 := h.1.he.2
 have HL2 := Lib.hid (uc_take_len (k := 9) hl2 hm2)
 have HR2 := Lib.hid fun (W : World) (bW : Below w.heap.size w W) => (show 0 < m2 → ∃ b o, v.ea = some ⟨b, o, none⟩ ∧ ∀ j u, (uc (a.fe.take 9))[j]? = some u → W.cell? ⟨b, o + j, none⟩ = some u from by
  have h1 := (h.call bW).1.e.take m2 (by rw [hm2]; exact Nat.min_le_left _ _)
  have h2 := rdU_news (show RdU W (lo W.heap.size) v.ea m2 (a.fe.take m2) from h1)
  rw [take_min a.fe hl2, ← hm2]
  exact h2)
 have hl3 : a.be.length = v.gn := h.2.e.len
 obtain ⟨m3, hm3⟩ : ∃ m : Nat, m = min v.gn 9 := ⟨_, rfl⟩
 have m3a : min (v.gn : Int) 9 = (m3 : Int) := by omega
 have m3b : (if (9 : Int) < (v.gn : Int) then (9 : Int) else (v.gn : Int)) = (m3 : Int) := by split <;> omega
 have m3z : (0 : Int) ≤ (m3 : Int) := by omega
 have hm3c : (m3 : Int) ≤ (v.gc : Int) := by have h1 : v.gn ≤ v.gc := h.2.he.1; omega
 have hm3d : v.gc ≤ 9223372036854775807 := h.2.he.2
 have HL3 := Lib.hid (uc_take_len (k := 9) hl3 hm3)
 have HR3 := Lib.hid fun (W : World) (bW : Below w.heap.size w W) => (show 0 < m3 → ∃ b o, v.ga = some ⟨b, o, none⟩ ∧ ∀ j u, (uc (a.be.take 9))[j]? = some u → W.cell? ⟨b, o + j, none⟩ = some u from by
  have h1 := (h.call bW).2.e.take m3 (by rw [hm3]; exact Nat.min_le_left _ _)
  have h2 := rdU_news (show RdU W (lo W.heap.size) v.ga m3 (a.be.take m3) from h1)
  rw [take_min a.be hl3, ← hm3]
  exact h2)
 have HM1 := Lib.hid hm1; have HM2 := Lib.hid hm2; have HM3 := Lib.hid hm3
 have HH := Lib.hid h
 have hww : w.heap.size ≤ w.heap.size + 1 := by omega
 have HE := Lib.hid (show (∀ x ∈ a.fe, x < 18446744073709551616) ∧ (∀ x ∈ a.be, x < 18446744073709551616) from ⟨fun x hx => by obtain ⟨i, hi⟩ := List.mem_iff_getElem?.1 hx; exact h.1.e.lt hi, fun x hx => by obtain ⟨i, hi⟩ := List.mem_iff_getElem?.1 hx; exact h.2.e.lt hi⟩)
 clear h hl1 hl2 hl3 hm1 hm2 hm3
 unfold AV.cells at *
 go_enter Tryd.func22, Tryd.ntmps22
 go_upto_region 1 with fail
 obtain ⟨w2, hw2⟩ : ∃ w2, (w.alloc (.cells #[.slice v.ca v.cn v.cc, .slice v.fa v.fn v.fc, .slice v.ba v.bn v.bc, .slice v.ea v.en v.ec, .slice v.ga v.gn v.gc] 38)).alloc (.cells #[.slice none 0 0, .slice none 0 0, .slice none 0 0, .slice none 0 0, .slice none 0 0] 38) = w2 := ⟨_, rfl⟩
 rw [hw2] at b1 kx kt ⊢
 have hg1 : w.heap.size < w2.heap.size := kx.lt
 have hg2 : w.heap.size + 1 < w2.heap.size := kt.lt
 obtain ⟨gx, hgx⟩ : ∃ g, w.heap.size = g := ⟨_, rfl⟩
 rw [hgx] at kx kt hg1 hg2 ⊢
 obtain ⟨gt, hgt⟩ : ∃ g, gx + 1 = g := ⟨_, rfl⟩
 rw [hgt] at kt hg2 ⊢
 clear hw2
 go_cut [3] (fun tv wx => ∃ (gA : Nat) (A1 : Option Addr) (c1 : Nat) (A2 : Option Addr) (c2 : Nat) (A3 : Option Addr) (c3 : Nat), tv = .pointer (some ⟨gA, 0, none⟩) ∧ w2.heap.size ≤ gA ∧ Bk wx gA 38 #[.slice A1 m1 c1, .slice none 0 0, .slice none 0 0, .slice A2 m2 c2, .slice A3 m3 c3] ∧ Ow 3 1 wx w2.heap.size A1 m1 c1 (ic (a.cls.take 12)) ∧ Ow 50 1 wx w2.heap.size A2 m2 c2 (uc (a.fe.take 9)) ∧ Ow 50 1 wx w2.heap.size A3 m3 c3 (uc (a.be.take 9)) ∧ Below w2.heap.size w2 wx)
 case first =>
  have HS := Lib.hid fun (W : World) (bW : Below w2.heap.size w2 W) => (show W.cell? ⟨gx, 0, none⟩ = some (.slice v.ca v.cn v.cc) ∧ W.cell? ⟨gx, 1, none⟩ = some (.slice v.fa v.fn v.fc) ∧ W.cell? ⟨gx, 2, none⟩ = some (.slice v.ba v.bn v.bc) ∧ W.cell? ⟨gx, 3, none⟩ = some (.slice v.ea v.en v.ec) ∧ W.cell? ⟨gx, 4, none⟩ = some (.slice v.ga v.gn v.gc) from by
    have k := kx.below bW hg1
    exact ⟨box_cells k 0 rfl, box_cells k 1 rfl, box_cells k 2 rfl, box_cells k 3 rfl, box_cells k 4 rfl⟩)
  have bb := Below.refl w2.heap.size w2
  refine wp_region_held_drew (S := fun w' => w'.cell? ⟨gx, 0, none⟩ = some (.slice v.ca v.cn v.cc) ∧ w'.cell? ⟨gx, 1, none⟩ = some (.slice v.fa v.fn v.fc) ∧ w'.cell? ⟨gx, 2, none⟩ = some (.slice v.ba v.bn v.bc) ∧ w'.cell? ⟨gx, 3, none⟩ = some (.slice v.ea v.en v.ec) ∧ w'.cell? ⟨gx, 4, none⟩ = some (.slice v.ga v.gn v.gc)) (by kernel_rfl) ?_ (fun hHeld => ?_)
  ·exact HS.out _ (below_drewN bb 1)
  replace bb := below_drewN bb 1
  change Below _ _ w2.drew at bb
  generalize hw0 : w2.drew = W at hHeld bb ⊢
  clear hw0
  refine tkB 1 (v := ?_) (by assumption) ?_ ?_
  rotate_left 1
  ·intro w hSw; (try dsimp only at hSw); go_simp; try with_reducible rfl
  refine tkB 2 (v := ?_) (by assumption) ?_ ?_
  rotate_left 1
  ·intro w hSw; (try dsimp only at hSw); go_simp; try with_reducible rfl
  refine tkB 3 (v := ?_) (by assumption) ?_ ?_
  rotate_left 1
  ·intro w hSw; (try dsimp only at hSw); go_simp; try with_reducible rfl
  refine tkB 4 (v := ?_) (by assumption) ?_ ?_
  rotate_left 1
  ·intro w hSw; (try dsimp only at hSw); go_simp; try with_reducible rfl
  refine tkB 5 (v := ?_) (by assumption) ?_ ?_
  rotate_left 1
  ·intro w hSw; (try dsimp only at hSw); go_simp; try with_reducible rfl
  refine tkB 6 (v := ?_) (by assumption) ?_ ?_
  rotate_left 1
  ·intro w hSw; (try dsimp only at hSw); go_simp; try with_reducible rfl
  refine tkB 7 (v := ?_) (by assumption) ?_ ?_
  rotate_left 1
  ·intro w hSw; (try dsimp only at hSw); go_simp; try with_reducible rfl
  refine tkB 10 (v := ?_) (by assumption) ?_ ?_
  rotate_left 1
  ·intro w hSw; (try dsimp only at hSw); go_simp; try with_reducible rfl
  refine tkB 11 (v := ?_) (by assumption) ?_ ?_
  rotate_left 1
  ·intro w hSw; (try dsimp only at hSw); go_simp; try with_reducible rfl
  refine tkB 12 (v := ?_) (by assumption) ?_ ?_
  rotate_left 1
  ·intro w hSw; (try dsimp only at hSw); go_simp; try with_reducible rfl
  refine tkB 13 (v := ?_) (by assumption) ?_ ?_
  rotate_left 1
  ·intro w hSw; (try dsimp only at hSw); go_simp; try with_reducible rfl
  refine tkB 14 (v := ?_) (by assumption) ?_ ?_
  rotate_left 1
  ·intro w hSw; (try dsimp only at hSw); go_simp; try with_reducible rfl
  refine tkB 15 (v := ?_) (by assumption) ?_ ?_
  rotate_left 1
  ·intro w hSw; (try dsimp only at hSw); go_simp; try with_reducible rfl
  refine tkB 16 (v := ?_) (by assumption) ?_ ?_
  rotate_left 1
  ·intro w hSw; (try dsimp only at hSw); go_simp; try with_reducible rfl
  refine tkB 19 (v := ?_) (by assumption) ?_ ?_
  rotate_left 1
  ·intro w hSw; (try dsimp only at hSw); go_simp; try with_reducible rfl
  refine tkB 20 (v := ?_) (by assumption) ?_ ?_
  rotate_left 1
  ·intro w hSw; (try dsimp only at hSw); go_simp; try with_reducible rfl
  refine tkB 21 (v := ?_) (by assumption) ?_ ?_
  rotate_left 1
  ·intro w hSw; (try dsimp only at hSw); go_simp; try with_reducible rfl
  refine tkB 22 (v := ?_) (by assumption) ?_ ?_
  rotate_left 1
  ·intro w hSw; (try dsimp only at hSw); go_simp; try with_reducible rfl
  refine tkB 23 (v := ?_) (by assumption) ?_ ?_
  rotate_left 1
  ·intro w hSw; (try dsimp only at hSw); go_simp; try with_reducible rfl
  refine tkB 24 (v := ?_) (by assumption) ?_ ?_
  rotate_left 1
  ·intro w hSw; (try dsimp only at hSw); go_simp; try with_reducible rfl
  refine tkB 25 (v := ?_) (by assumption) ?_ ?_
  rotate_left 1
  ·intro w hSw; (try dsimp only at hSw); go_simp; try with_reducible rfl
  revert hHeld
  revert bb
  revert W
  refine Wrap.out ?_
  apply later
  intro c11113
  refine Wrap.out ?_
  apply later
  intro c11112
  refine Wrap.out ?_
  apply later
  intro c11103
  refine Wrap.out ?_
  apply later
  intro c11111
  refine Wrap.out ?_
  apply later
  intro c11102
  refine Wrap.out ?_
  apply later
  intro c11012
  refine Wrap.out ?_
  apply later
  intro c11110
  refine Wrap.out ?_
  apply later
  intro c11101
  refine Wrap.out ?_
  apply later
  intro c11011
  refine Wrap.out ?_
  apply later
  intro c11002
  refine Wrap.out ?_
  apply later
  intro c10111
  refine Wrap.out ?_
  apply later
  intro c11100
  refine Wrap.out ?_
  apply later
  intro c11010
  refine Wrap.out ?_
  apply later
  intro c11001
  refine Wrap.out ?_
  apply later
  intro c10110
  refine Wrap.out ?_
  apply later
  intro c10101
  refine Wrap.out ?_
  apply later
  intro c10011
  refine Wrap.out ?_
  apply later
  intro c01110
  refine Wrap.out ?_
  apply later
  intro c11000
  refine Wrap.out ?_
  apply later
  intro c10100
  refine Wrap.out ?_
  apply later
  intro c10010
  refine Wrap.out ?_
  apply later
  intro c10001
  refine Wrap.out ?_
  apply later
  intro c01100
  refine Wrap.out ?_
  apply later
  intro c01010
  refine Wrap.out ?_
  apply later
  intro c00110
  refine Wrap.out ?_
  apply later
  intro c10000
  refine Wrap.out ?_
  apply later
  intro c01000
  refine Wrap.out ?_
  apply later
  intro c00100
  refine Wrap.out ?_
  apply later
  intro c00010
  intro W bb hHeld
  refine wpAnyH_ready (rs := [0, 9, 18, 28]) (by kernel_rfl) (by simp) ?_
  refine AllReadyH.cons (by simp only [List.getElem?_toArray]; rfl) (fun K hK => ?_) (AllReadyH.cons (by simp only [List.getElem?_toArray]; rfl) (fun K hK => ?_) (AllReadyH.cons (by simp only [List.getElem?_toArray]; rfl) (fun K hK => ?_) (AllReadyH.cons (by simp only [List.getElem?_toArray]; rfl) (fun K hK => ?_) AllReadyH.nil)))
  ·refine wanted_pos (by kernel_rfl) ?_
   go_simp
   clear hHeld
   refine hK.out _ _ ?_ (fun hHeld => ?_)
   ·exact HS.out _ (below_lit _ _ bb _)
   clear hK K
   try conv => arg 8; simp only [Act.put, List.setIfInBounds_toArray, List.set_cons_zero, List.set_cons_succ]
   have e1 := Ow.empty 3 1 W w2.heap.size bb.size
   replace bb := below_lit _ _ bb (.cells #[] 3)
   generalize W.alloc (.cells #[] 3) = W' at *
   generalize W.heap.size = g1 at *
   clear W
   rename World => W
   revert hHeld
   revert bb
   revert e1
   revert g1
   revert W
   exact c10000.go

  ·refine wanted_pos (by kernel_rfl) ?_
   go_simp
   clear hHeld
   refine hK.out _ _ ?_ (fun hHeld => ?_)
   ·exact HS.out _ (below_lit _ _ bb _)
   clear hK K
   try conv => arg 8; simp only [Act.put, List.setIfInBounds_toArray, List.set_cons_zero, List.set_cons_succ]
   have e2 := Ow.empty 50 1 W w2.heap.size bb.size
   replace bb := below_lit _ _ bb (.cells #[] 50)
   generalize W.alloc (.cells #[] 50) = W' at *
   generalize W.heap.size = g2 at *
   clear W
   rename World => W
   revert hHeld
   revert bb
   revert e2
   revert g2
   revert W
   exact c01000.go

  ·refine wanted_pos (by kernel_rfl) ?_
   go_simp
   clear hHeld
   refine hK.out _ _ ?_ (fun hHeld => ?_)
   ·exact HS.out _ (below_lit _ _ bb _)
   clear hK K
   try conv => arg 8; simp only [Act.put, List.setIfInBounds_toArray, List.set_cons_zero, List.set_cons_succ]
   have e3 := Ow.empty 50 1 W w2.heap.size bb.size
   replace bb := below_lit _ _ bb (.cells #[] 50)
   generalize W.alloc (.cells #[] 50) = W' at *
   generalize W.heap.size = g3 at *
   clear W
   rename World => W
   revert hHeld
   revert bb
   revert e3
   revert g3
   revert W
   exact c00100.go

  ·refine wanted_pos (by kernel_rfl) ?_
   go_simp
   clear hHeld
   refine hK.out _ _ ?_ (fun hHeld => ?_)
   ·exact HS.out _ (below_lit _ _ bb _)
   clear hK K
   try conv => arg 8; simp only [Act.put, List.setIfInBounds_toArray, List.set_cons_zero, List.set_cons_succ]
   have kA := Bk.new W 38 #[.slice none 0 0, .slice none 0 0, .slice none 0 0, .slice none 0 0, .slice none 0 0]
   have gA2 := bb.size
   replace bb := below_lit _ _ bb (.cells #[.slice none 0 0, .slice none 0 0, .slice none 0 0, .slice none 0 0, .slice none 0 0] 38)
   generalize W.alloc (.cells #[.slice none 0 0, .slice none 0 0, .slice none 0 0, .slice none 0 0, .slice none 0 0] 38) = W' at *
   generalize W.heap.size = gA at *
   clear W
   rename World => W
   revert hHeld
   revert bb
   revert gA2
   revert kA
   revert gA
   revert W
   exact c00010.go

  intro W gA kA gA2 bb hHeld
  refine wpAnyH_ready (rs := [0, 9, 18]) (by kernel_rfl) (by simp) ?_
  refine AllReadyH.cons (by simp only [List.getElem?_toArray]; rfl) (fun K hK => ?_) (AllReadyH.cons (by simp only [List.getElem?_toArray]; rfl) (fun K hK => ?_) (AllReadyH.cons (by simp only [List.getElem?_toArray]; rfl) (fun K hK => ?_) AllReadyH.nil))
  ·refine wanted_pos (by kernel_rfl) ?_
   go_simp
   clear hHeld
   refine hK.out _ _ ?_ (fun hHeld => ?_)
   ·exact HS.out _ (below_lit _ _ bb _)
   clear hK K
   try conv => arg 8; simp only [Act.put, List.setIfInBounds_toArray, List.set_cons_zero, List.set_cons_succ]
   have e1 := Ow.empty 3 1 W w2.heap.size bb.size
   replace kA := kA.alloc (.cells #[] 3)
   replace bb := below_lit _ _ bb (.cells #[] 3)
   generalize W.alloc (.cells #[] 3) = W' at *
   generalize W.heap.size = g1 at *
   clear W
   rename World => W
   revert hHeld
   revert bb
   revert gA2
   revert kA
   revert e1
   revert gA
   revert g1
   revert W
   exact c10010.go

  ·refine wanted_pos (by kernel_rfl) ?_
   go_simp
   clear hHeld
   refine hK.out _ _ ?_ (fun hHeld => ?_)
   ·exact HS.out _ (below_lit _ _ bb _)
   clear hK K
   try conv => arg 8; simp only [Act.put, List.setIfInBounds_toArray, List.set_cons_zero, List.set_cons_succ]
   have e2 := Ow.empty 50 1 W w2.heap.size bb.size
   replace kA := kA.alloc (.cells #[] 50)
   replace bb := below_lit _ _ bb (.cells #[] 50)
   generalize W.alloc (.cells #[] 50) = W' at *
   generalize W.heap.size = g2 at *
   clear W
   rename World => W
   revert hHeld
   revert bb
   revert gA2
   revert kA
   revert e2
   revert gA
   revert g2
   revert W
   exact c01010.go

  ·refine wanted_pos (by kernel_rfl) ?_
   go_simp
   clear hHeld
   refine hK.out _ _ ?_ (fun hHeld => ?_)
   ·exact HS.out _ (below_lit _ _ bb _)
   clear hK K
   try conv => arg 8; simp only [Act.put, List.setIfInBounds_toArray, List.set_cons_zero, List.set_cons_succ]
   have e3 := Ow.empty 50 1 W w2.heap.size bb.size
   replace kA := kA.alloc (.cells #[] 50)
   replace bb := below_lit _ _ bb (.cells #[] 50)
   generalize W.alloc (.cells #[] 50) = W' at *
   generalize W.heap.size = g3 at *
   clear W
   rename World => W
   revert hHeld
   revert bb
   revert gA2
   revert kA
   revert e3
   revert gA
   revert g3
   revert W
   exact c00110.go

  intro W g3 e3 bb hHeld
  refine wpAnyH_ready (rs := [0, 9, 28]) (by kernel_rfl) (by simp) ?_
  refine AllReadyH.cons (by simp only [List.getElem?_toArray]; rfl) (fun K hK => ?_) (AllReadyH.cons (by simp only [List.getElem?_toArray]; rfl) (fun K hK => ?_) (AllReadyH.cons (by simp only [List.getElem?_toArray]; rfl) (fun K hK => ?_) AllReadyH.nil))
  ·refine wanted_pos (by kernel_rfl) ?_
   go_simp
   clear hHeld
   refine hK.out _ _ ?_ (fun hHeld => ?_)
   ·exact HS.out _ (below_lit _ _ bb _)
   clear hK K
   try conv => arg 8; simp only [Act.put, List.setIfInBounds_toArray, List.set_cons_zero, List.set_cons_succ]
   have e1 := Ow.empty 3 1 W w2.heap.size bb.size
   replace e3 := e3.alloc (.cells #[] 3)
   replace bb := below_lit _ _ bb (.cells #[] 3)
   generalize W.alloc (.cells #[] 3) = W' at *
   generalize W.heap.size = g1 at *
   clear W
   rename World => W
   revert hHeld
   revert bb
   revert e3
   revert e1
   revert g3
   revert g1
   revert W
   exact c10100.go

  ·refine wanted_pos (by kernel_rfl) ?_
   go_simp
   clear hHeld
   refine hK.out _ _ ?_ (fun hHeld => ?_)
   ·exact HS.out _ (below_lit _ _ bb _)
   clear hK K
   try conv => arg 8; simp only [Act.put, List.setIfInBounds_toArray, List.set_cons_zero, List.set_cons_succ]
   have e2 := Ow.empty 50 1 W w2.heap.size bb.size
   have n23 := ne_symm (Ow.ne_new e3)
   replace e3 := e3.alloc (.cells #[] 50)
   replace bb := below_lit _ _ bb (.cells #[] 50)
   generalize W.alloc (.cells #[] 50) = W' at *
   generalize W.heap.size = g2 at *
   clear W
   rename World => W
   revert hHeld
   revert bb
   revert n23
   revert e3
   revert e2
   revert g3
   revert g2
   revert W
   exact c01100.go

  ·refine wanted_pos (by kernel_rfl) ?_
   go_simp
   clear hHeld
   refine hK.out _ _ ?_ (fun hHeld => ?_)
   ·exact HS.out _ (below_lit _ _ bb _)
   clear hK K
   try conv => arg 8; simp only [Act.put, List.setIfInBounds_toArray, List.set_cons_zero, List.set_cons_succ]
   have kA := Bk.new W 38 #[.slice none 0 0, .slice none 0 0, .slice none 0 0, .slice none 0 0, .slice none 0 0]
   have gA2 := bb.size
   replace e3 := e3.alloc (.cells #[.slice none 0 0, .slice none 0 0, .slice none 0 0, .slice none 0 0, .slice none 0 0] 38)
   replace bb := below_lit _ _ bb (.cells #[.slice none 0 0, .slice none 0 0, .slice none 0 0, .slice none 0 0, .slice none 0 0] 38)
   generalize W.alloc (.cells #[.slice none 0 0, .slice none 0 0, .slice none 0 0, .slice none 0 0, .slice none 0 0] 38) = W' at *
   generalize W.heap.size = gA at *
   clear W
   rename World => W
   revert hHeld
   revert bb
   revert gA2
   revert kA
   revert e3
   revert gA
   revert g3
   revert W
   exact c00110.go

  intro W g2 e2 bb hHeld
  refine wpAnyH_ready (rs := [0, 18, 28]) (by kernel_rfl) (by simp) ?_
  refine AllReadyH.cons (by simp only [List.getElem?_toArray]; rfl) (fun K hK => ?_) (AllReadyH.cons (by simp only [List.getElem?_toArray]; rfl) (fun K hK => ?_) (AllReadyH.cons (by simp only [List.getElem?_toArray]; rfl) (fun K hK => ?_) AllReadyH.nil))
  ·refine wanted_pos (by kernel_rfl) ?_
   go_simp
   clear hHeld
   refine hK.out _ _ ?_ (fun hHeld => ?_)
   ·exact HS.out _ (below_lit _ _ bb _)
   clear hK K
   try conv => arg 8; simp only [Act.put, List.setIfInBounds_toArray, List.set_cons_zero, List.set_cons_succ]
   have e1 := Ow.empty 3 1 W w2.heap.size bb.size
   replace e2 := e2.alloc (.cells #[] 3)
   replace bb := below_lit _ _ bb (.cells #[] 3)
   generalize W.alloc (.cells #[] 3) = W' at *
   generalize W.heap.size = g1 at *
   clear W
   rename World => W
   revert hHeld
   revert bb
   revert e2
   revert e1
   revert g2
   revert g1
   revert W
   exact c11000.go

  ·refine wanted_pos (by kernel_rfl) ?_
   go_simp
   clear hHeld
   refine hK.out _ _ ?_ (fun hHeld => ?_)
   ·exact HS.out _ (below_lit _ _ bb _)
   clear hK K
   try conv => arg 8; simp only [Act.put, List.setIfInBounds_toArray, List.set_cons_zero, List.set_cons_succ]
   have e3 := Ow.empty 50 1 W w2.heap.size bb.size
   have n23 := Ow.ne_new e2
   replace e2 := e2.alloc (.cells #[] 50)
   replace bb := below_lit _ _ bb (.cells #[] 50)
   generalize W.alloc (.cells #[] 50) = W' at *
   generalize W.heap.size = g3 at *
   clear W
   rename World => W
   revert hHeld
   revert bb
   revert n23
   revert e3
   revert e2
   revert g3
   revert g2
   revert W
   exact c01100.go

  ·refine wanted_pos (by kernel_rfl) ?_
   go_simp
   clear hHeld
   refine hK.out _ _ ?_ (fun hHeld => ?_)
   ·exact HS.out _ (below_lit _ _ bb _)
   clear hK K
   try conv => arg 8; simp only [Act.put, List.setIfInBounds_toArray, List.set_cons_zero, List.set_cons_succ]
   have kA := Bk.new W 38 #[.slice none 0 0, .slice none 0 0, .slice none 0 0, .slice none 0 0, .slice none 0 0]
   have gA2 := bb.size
   replace e2 := e2.alloc (.cells #[.slice none 0 0, .slice none 0 0, .slice none 0 0, .slice none 0 0, .slice none 0 0] 38)
   replace bb := below_lit _ _ bb (.cells #[.slice none 0 0, .slice none 0 0, .slice none 0 0, .slice none 0 0, .slice none 0 0] 38)
   generalize W.alloc (.cells #[.slice none 0 0, .slice none 0 0, .slice none 0 0, .slice none 0 0, .slice none 0 0] 38) = W' at *
   generalize W.heap.size = gA at *
   clear W
   rename World => W
   revert hHeld
   revert bb
   revert gA2
   revert kA
   revert e2
   revert gA
   revert g2
   revert W
   exact c01010.go

  intro W g1 e1 bb hHeld
  refine wpAnyH_ready (rs := [8, 9, 18, 28]) (by kernel_rfl) (by simp) ?_
  refine AllReadyH.cons (by simp only [List.getElem?_toArray]; rfl) (fun K hK => ?_) (AllReadyH.cons (by simp only [List.getElem?_toArray]; rfl) (fun K hK => ?_) (AllReadyH.cons (by simp only [List.getElem?_toArray]; rfl) (fun K hK => ?_) (AllReadyH.cons (by simp only [List.getElem?_toArray]; rfl) (fun K hK => ?_) AllReadyH.nil)))
  ·clear hHeld
   refine appStep elt_int (by kernel_rfl) _ _ rfl W w2.heap.size _ _ _ [] _ _ _ (ic (a.cls.take 12)) (by rfl) (by rfl) e1 HL1.out (HR1.out _ (below_call b1 bb)) (ic_one _) (by have := HM1.out; omega) bb.size ?_
   intro A1 c1 W' f1 hg hb hat
   rw [List.nil_append, Nat.zero_add] at f1
   rw [Nat.zero_add]
   refine hK.out _ _ ?_ (fun hHeld => ?_)
   ·exact HS.out _ (bb.trans hb)
   clear hK K
   try conv => arg 8; simp only [Act.put, List.setIfInBounds_toArray, List.set_cons_zero, List.set_cons_succ]
   replace bb := bb.trans hb
   clear e1 hg hb hat
   have e1 := f1
   clear f1
   clear W
   rename World => W
   revert hHeld
   revert bb
   revert e1
   revert c1
   revert A1
   revert g1
   revert W
   exact c10001.go

  ·refine wanted_pos (by kernel_rfl) ?_
   go_simp
   clear hHeld
   refine hK.out _ _ ?_ (fun hHeld => ?_)
   ·exact HS.out _ (below_lit _ _ bb _)
   clear hK K
   try conv => arg 8; simp only [Act.put, List.setIfInBounds_toArray, List.set_cons_zero, List.set_cons_succ]
   have e2 := Ow.empty 50 1 W w2.heap.size bb.size
   replace e1 := e1.alloc (.cells #[] 50)
   replace bb := below_lit _ _ bb (.cells #[] 50)
   generalize W.alloc (.cells #[] 50) = W' at *
   generalize W.heap.size = g2 at *
   clear W
   rename World => W
   revert hHeld
   revert bb
   revert e2
   revert e1
   revert g2
   revert g1
   revert W
   exact c11000.go

  ·refine wanted_pos (by kernel_rfl) ?_
   go_simp
   clear hHeld
   refine hK.out _ _ ?_ (fun hHeld => ?_)
   ·exact HS.out _ (below_lit _ _ bb _)
   clear hK K
   try conv => arg 8; simp only [Act.put, List.setIfInBounds_toArray, List.set_cons_zero, List.set_cons_succ]
   have e3 := Ow.empty 50 1 W w2.heap.size bb.size
   replace e1 := e1.alloc (.cells #[] 50)
   replace bb := below_lit _ _ bb (.cells #[] 50)
   generalize W.alloc (.cells #[] 50) = W' at *
   generalize W.heap.size = g3 at *
   clear W
   rename World => W
   revert hHeld
   revert bb
   revert e3
   revert e1
   revert g3
   revert g1
   revert W
   exact c10100.go

  ·refine wanted_pos (by kernel_rfl) ?_
   go_simp
   clear hHeld
   refine hK.out _ _ ?_ (fun hHeld => ?_)
   ·exact HS.out _ (below_lit _ _ bb _)
   clear hK K
   try conv => arg 8; simp only [Act.put, List.setIfInBounds_toArray, List.set_cons_zero, List.set_cons_succ]
   have kA := Bk.new W 38 #[.slice none 0 0, .slice none 0 0, .slice none 0 0, .slice none 0 0, .slice none 0 0]
   have gA2 := bb.size
   replace e1 := e1.alloc (.cells #[.slice none 0 0, .slice none 0 0, .slice none 0 0, .slice none 0 0, .slice none 0 0] 38)
   replace bb := below_lit _ _ bb (.cells #[.slice none 0 0, .slice none 0 0, .slice none 0 0, .slice none 0 0, .slice none 0 0] 38)
   generalize W.alloc (.cells #[.slice none 0 0, .slice none 0 0, .slice none 0 0, .slice none 0 0, .slice none 0 0] 38) = W' at *
   generalize W.heap.size = gA at *
   clear W
   rename World => W
   revert hHeld
   revert bb
   revert gA2
   revert kA
   revert e1
   revert gA
   revert g1
   revert W
   exact c10010.go

  intro W g3 gA e3 kA gA2 bb hHeld
  refine wpAnyH_ready (rs := [0, 9]) (by kernel_rfl) (by simp) ?_
  refine AllReadyH.cons (by simp only [List.getElem?_toArray]; rfl) (fun K hK => ?_) (AllReadyH.cons (by simp only [List.getElem?_toArray]; rfl) (fun K hK => ?_) AllReadyH.nil)
  ·refine wanted_pos (by kernel_rfl) ?_
   go_simp
   clear hHeld
   refine hK.out _ _ ?_ (fun hHeld => ?_)
   ·exact HS.out _ (below_lit _ _ bb _)
   clear hK K
   try conv => arg 8; simp only [Act.put, List.setIfInBounds_toArray, List.set_cons_zero, List.set_cons_succ]
   have e1 := Ow.empty 3 1 W w2.heap.size bb.size
   replace e3 := e3.alloc (.cells #[] 3)
   replace kA := kA.alloc (.cells #[] 3)
   replace bb := below_lit _ _ bb (.cells #[] 3)
   generalize W.alloc (.cells #[] 3) = W' at *
   generalize W.heap.size = g1 at *
   clear W
   rename World => W
   revert hHeld
   revert bb
   revert gA2
   revert kA
   revert e3
   revert e1
   revert gA
   revert g3
   revert g1
   revert W
   exact c10110.go

  ·refine wanted_pos (by kernel_rfl) ?_
   go_simp
   clear hHeld
   refine hK.out _ _ ?_ (fun hHeld => ?_)
   ·exact HS.out _ (below_lit _ _ bb _)
   clear hK K
   try conv => arg 8; simp only [Act.put, List.setIfInBounds_toArray, List.set_cons_zero, List.set_cons_succ]
   have e2 := Ow.empty 50 1 W w2.heap.size bb.size
   have n23 := ne_symm (Ow.ne_new e3)
   replace e3 := e3.alloc (.cells #[] 50)
   replace kA := kA.alloc (.cells #[] 50)
   replace bb := below_lit _ _ bb (.cells #[] 50)
   generalize W.alloc (.cells #[] 50) = W' at *
   generalize W.heap.size = g2 at *
   clear W
   rename World => W
   revert hHeld
   revert bb
   revert n23
   revert gA2
   revert kA
   revert e3
   revert e2
   revert gA
   revert g3
   revert g2
   revert W
   exact c01110.go

  intro W g2 gA e2 kA gA2 bb hHeld
  refine wpAnyH_ready (rs := [0, 18]) (by kernel_rfl) (by simp) ?_
  refine AllReadyH.cons (by simp only [List.getElem?_toArray]; rfl) (fun K hK => ?_) (AllReadyH.cons (by simp only [List.getElem?_toArray]; rfl) (fun K hK => ?_) AllReadyH.nil)
  ·refine wanted_pos (by kernel_rfl) ?_
   go_simp
   clear hHeld
   refine hK.out _ _ ?_ (fun hHeld => ?_)
   ·exact HS.out _ (below_lit _ _ bb _)
   clear hK K
   try conv => arg 8; simp only [Act.put, List.setIfInBounds_toArray, List.set_cons_zero, List.set_cons_succ]
   have e1 := Ow.empty 3 1 W w2.heap.size bb.size
   replace e2 := e2.alloc (.cells #[] 3)
   replace kA := kA.alloc (.cells #[] 3)
   replace bb := below_lit _ _ bb (.cells #[] 3)
   generalize W.alloc (.cells #[] 3) = W' at *
   generalize W.heap.size = g1 at *
   clear W
   rename World => W
   revert hHeld
   revert bb
   revert gA2
   revert kA
   revert e2
   revert e1
   revert gA
   revert g2
   revert g1
   revert W
   exact c11010.go

  ·refine wanted_pos (by kernel_rfl) ?_
   go_simp
   clear hHeld
   refine hK.out _ _ ?_ (fun hHeld => ?_)
   ·exact HS.out _ (below_lit _ _ bb _)
   clear hK K
   try conv => arg 8; simp only [Act.put, List.setIfInBounds_toArray, List.set_cons_zero, List.set_cons_succ]
   have e3 := Ow.empty 50 1 W w2.heap.size bb.size
   have n23 := Ow.ne_new e2
   replace e2 := e2.alloc (.cells #[] 50)
   replace kA := kA.alloc (.cells #[] 50)
   replace bb := below_lit _ _ bb (.cells #[] 50)
   generalize W.alloc (.cells #[] 50) = W' at *
   generalize W.heap.size = g3 at *
   clear W
   rename World => W
   revert hHeld
   revert bb
   revert n23
   revert gA2
   revert kA
   revert e3
   revert e2
   revert gA
   revert g3
   revert g2
   revert W
   exact c01110.go

  intro W g2 g3 e2 e3 n23 bb hHeld
  refine wpAnyH_ready (rs := [0, 28]) (by kernel_rfl) (by simp) ?_
  refine AllReadyH.cons (by simp only [List.getElem?_toArray]; rfl) (fun K hK => ?_) (AllReadyH.cons (by simp only [List.getElem?_toArray]; rfl) (fun K hK => ?_) AllReadyH.nil)
  ·refine wanted_pos (by kernel_rfl) ?_
   go_simp
   clear hHeld
   refine hK.out _ _ ?_ (fun hHeld => ?_)
   ·exact HS.out _ (below_lit _ _ bb _)
   clear hK K
   try conv => arg 8; simp only [Act.put, List.setIfInBounds_toArray, List.set_cons_zero, List.set_cons_succ]
   have e1 := Ow.empty 3 1 W w2.heap.size bb.size
   replace e2 := e2.alloc (.cells #[] 3)
   replace e3 := e3.alloc (.cells #[] 3)
   replace bb := below_lit _ _ bb (.cells #[] 3)
   generalize W.alloc (.cells #[] 3) = W' at *
   generalize W.heap.size = g1 at *
   clear W
   rename World => W
   revert hHeld
   revert bb
   revert n23
   revert e3
   revert e2
   revert e1
   revert g3
   revert g2
   revert g1
   revert W
   exact c11100.go

  ·refine wanted_pos (by kernel_rfl) ?_
   go_simp
   clear hHeld
   refine hK.out _ _ ?_ (fun hHeld => ?_)
   ·exact HS.out _ (below_lit _ _ bb _)
   clear hK K
   try conv => arg 8; simp only [Act.put, List.setIfInBounds_toArray, List.set_cons_zero, List.set_cons_succ]
   have kA := Bk.new W 38 #[.slice none 0 0, .slice none 0 0, .slice none 0 0, .slice none 0 0, .slice none 0 0]
   have gA2 := bb.size
   replace e2 := e2.alloc (.cells #[.slice none 0 0, .slice none 0 0, .slice none 0 0, .slice none 0 0, .slice none 0 0] 38)
   replace e3 := e3.alloc (.cells #[.slice none 0 0, .slice none 0 0, .slice none 0 0, .slice none 0 0, .slice none 0 0] 38)
   replace bb := below_lit _ _ bb (.cells #[.slice none 0 0, .slice none 0 0, .slice none 0 0, .slice none 0 0, .slice none 0 0] 38)
   generalize W.alloc (.cells #[.slice none 0 0, .slice none 0 0, .slice none 0 0, .slice none 0 0, .slice none 0 0] 38) = W' at *
   generalize W.heap.size = gA at *
   clear W
   rename World => W
   revert hHeld
   revert bb
   revert n23
   revert gA2
   revert kA
   revert e3
   revert e2
   revert gA
   revert g3
   revert g2
   revert W
   exact c01110.go

  intro W g1 A1 c1 e1 bb hHeld
  refine wpAnyH_ready (rs := [9, 18, 28]) (by kernel_rfl) (by simp) ?_
  refine AllReadyH.cons (by simp only [List.getElem?_toArray]; rfl) (fun K hK => ?_) (AllReadyH.cons (by simp only [List.getElem?_toArray]; rfl) (fun K hK => ?_) (AllReadyH.cons (by simp only [List.getElem?_toArray]; rfl) (fun K hK => ?_) AllReadyH.nil))
  ·refine wanted_pos (by kernel_rfl) ?_
   go_simp
   clear hHeld
   refine hK.out _ _ ?_ (fun hHeld => ?_)
   ·exact HS.out _ (below_lit _ _ bb _)
   clear hK K
   try conv => arg 8; simp only [Act.put, List.setIfInBounds_toArray, List.set_cons_zero, List.set_cons_succ]
   have e2 := Ow.empty 50 1 W w2.heap.size bb.size
   replace e1 := e1.alloc (.cells #[] 50)
   replace bb := below_lit _ _ bb (.cells #[] 50)
   generalize W.alloc (.cells #[] 50) = W' at *
   generalize W.heap.size = g2 at *
   clear W
   rename World => W
   revert hHeld
   revert bb
   revert e2
   revert e1
   revert g2
   revert c1
   revert A1
   revert g1
   revert W
   exact c11001.go

  ·refine wanted_pos (by kernel_rfl) ?_
   go_simp
   clear hHeld
   refine hK.out _ _ ?_ (fun hHeld => ?_)
   ·exact HS.out _ (below_lit _ _ bb _)
   clear hK K
   try conv => arg 8; simp only [Act.put, List.setIfInBounds_toArray, List.set_cons_zero, List.set_cons_succ]
   have e3 := Ow.empty 50 1 W w2.heap.size bb.size
   replace e1 := e1.alloc (.cells #[] 50)
   replace bb := below_lit _ _ bb (.cells #[] 50)
   generalize W.alloc (.cells #[] 50) = W' at *
   generalize W.heap.size = g3 at *
   clear W
   rename World => W
   revert hHeld
   revert bb
   revert e3
   revert e1
   revert g3
   revert c1
   revert A1
   revert g1
   revert W
   exact c10101.go

  ·refine wanted_pos (by kernel_rfl) ?_
   go_simp
   clear hHeld
   refine hK.out _ _ ?_ (fun hHeld => ?_)
   ·exact HS.out _ (below_lit _ _ bb _)
   clear hK K
   try conv => arg 8; simp only [Act.put, List.setIfInBounds_toArray, List.set_cons_zero, List.set_cons_succ]
   have kA := Bk.new W 38 #[.slice none 0 0, .slice none 0 0, .slice none 0 0, .slice none 0 0, .slice none 0 0]
   have gA2 := bb.size
   replace e1 := e1.alloc (.cells #[.slice none 0 0, .slice none 0 0, .slice none 0 0, .slice none 0 0, .slice none 0 0] 38)
   replace bb := below_lit _ _ bb (.cells #[.slice none 0 0, .slice none 0 0, .slice none 0 0, .slice none 0 0, .slice none 0 0] 38)
   generalize W.alloc (.cells #[.slice none 0 0, .slice none 0 0, .slice none 0 0, .slice none 0 0, .slice none 0 0] 38) = W' at *
   generalize W.heap.size = gA at *
   clear W
   rename World => W
   revert hHeld
   revert bb
   revert gA2
   revert kA
   revert e1
   revert gA
   revert c1
   revert A1
   revert g1
   revert W
   exact c10011.go

  intro W g1 gA e1 kA gA2 bb hHeld
  refine wpAnyH_ready (rs := [8, 9, 18]) (by kernel_rfl) (by simp) ?_
  refine AllReadyH.cons (by simp only [List.getElem?_toArray]; rfl) (fun K hK => ?_) (AllReadyH.cons (by simp only [List.getElem?_toArray]; rfl) (fun K hK => ?_) (AllReadyH.cons (by simp only [List.getElem?_toArray]; rfl) (fun K hK => ?_) AllReadyH.nil))
  ·clear hHeld
   refine appStep elt_int (by kernel_rfl) _ _ rfl W w2.heap.size _ _ _ [] _ _ _ (ic (a.cls.take 12)) (by rfl) (by rfl) e1 HL1.out (HR1.out _ (below_call b1 bb)) (ic_one _) (by have := HM1.out; omega) bb.size ?_
   intro A1 c1 W' f1 hg hb hat
   rw [List.nil_append, Nat.zero_add] at f1
   rw [Nat.zero_add]
   refine hK.out _ _ ?_ (fun hHeld => ?_)
   ·exact HS.out _ (bb.trans hb)
   clear hK K
   try conv => arg 8; simp only [Act.put, List.setIfInBounds_toArray, List.set_cons_zero, List.set_cons_succ]
   replace kA := kA.grown hg (kA.ne_own (by decide) e1)
   replace bb := bb.trans hb
   clear e1 hg hb hat
   have e1 := f1
   clear f1
   clear W
   rename World => W
   revert hHeld
   revert bb
   revert gA2
   revert kA
   revert e1
   revert gA
   revert c1
   revert A1
   revert g1
   revert W
   exact c10011.go

  ·refine wanted_pos (by kernel_rfl) ?_
   go_simp
   clear hHeld
   refine hK.out _ _ ?_ (fun hHeld => ?_)
   ·exact HS.out _ (below_lit _ _ bb _)
   clear hK K
   try conv => arg 8; simp only [Act.put, List.setIfInBounds_toArray, List.set_cons_zero, List.set_cons_succ]
   have e2 := Ow.empty 50 1 W w2.heap.size bb.size
   replace e1 := e1.alloc (.cells #[] 50)
   replace kA := kA.alloc (.cells #[] 50)
   replace bb := below_lit _ _ bb (.cells #[] 50)
   generalize W.alloc (.cells #[] 50) = W' at *
   generalize W.heap.size = g2 at *
   clear W
   rename World => W
   revert hHeld
   revert bb
   revert gA2
   revert kA
   revert e2
   revert e1
   revert gA
   revert g2
   revert g1
   revert W
   exact c11010.go

  ·refine wanted_pos (by kernel_rfl) ?_
   go_simp
   clear hHeld
   refine hK.out _ _ ?_ (fun hHeld => ?_)
   ·exact HS.out _ (below_lit _ _ bb _)
   clear hK K
   try conv => arg 8; simp only [Act.put, List.setIfInBounds_toArray, List.set_cons_zero, List.set_cons_succ]
   have e3 := Ow.empty 50 1 W w2.heap.size bb.size
   replace e1 := e1.alloc (.cells #[] 50)
   replace kA := kA.alloc (.cells #[] 50)
   replace bb := below_lit _ _ bb (.cells #[] 50)
   generalize W.alloc (.cells #[] 50) = W' at *
   generalize W.heap.size = g3 at *
   clear W
   rename World => W
   revert hHeld
   revert bb
   revert gA2
   revert kA
   revert e3
   revert e1
   revert gA
   revert g3
   revert g1
   revert W
   exact c10110.go

  intro W g1 g3 e1 e3 bb hHeld
  refine wpAnyH_ready (rs := [8, 9, 28]) (by kernel_rfl) (by simp) ?_
  refine AllReadyH.cons (by simp only [List.getElem?_toArray]; rfl) (fun K hK => ?_) (AllReadyH.cons (by simp only [List.getElem?_toArray]; rfl) (fun K hK => ?_) (AllReadyH.cons (by simp only [List.getElem?_toArray]; rfl) (fun K hK => ?_) AllReadyH.nil))
  ·clear hHeld
   refine appStep elt_int (by kernel_rfl) _ _ rfl W w2.heap.size _ _ _ [] _ _ _ (ic (a.cls.take 12)) (by rfl) (by rfl) e1 HL1.out (HR1.out _ (below_call b1 bb)) (ic_one _) (by have := HM1.out; omega) bb.size ?_
   intro A1 c1 W' f1 hg hb hat
   rw [List.nil_append, Nat.zero_add] at f1
   rw [Nat.zero_add]
   refine hK.out _ _ ?_ (fun hHeld => ?_)
   ·exact HS.out _ (bb.trans hb)
   clear hK K
   try conv => arg 8; simp only [Act.put, List.setIfInBounds_toArray, List.set_cons_zero, List.set_cons_succ]
   replace e3 := e3.grown hg (e3.ne_types e1 (by decide))
   replace bb := bb.trans hb
   clear e1 hg hb hat
   have e1 := f1
   clear f1
   clear W
   rename World => W
   revert hHeld
   revert bb
   revert e3
   revert e1
   revert g3
   revert c1
   revert A1
   revert g1
   revert W
   exact c10101.go

  ·refine wanted_pos (by kernel_rfl) ?_
   go_simp
   clear hHeld
   refine hK.out _ _ ?_ (fun hHeld => ?_)
   ·exact HS.out _ (below_lit _ _ bb _)
   clear hK K
   try conv => arg 8; simp only [Act.put, List.setIfInBounds_toArray, List.set_cons_zero, List.set_cons_succ]
   have e2 := Ow.empty 50 1 W w2.heap.size bb.size
   have n23 := ne_symm (Ow.ne_new e3)
   replace e1 := e1.alloc (.cells #[] 50)
   replace e3 := e3.alloc (.cells #[] 50)
   replace bb := below_lit _ _ bb (.cells #[] 50)
   generalize W.alloc (.cells #[] 50) = W' at *
   generalize W.heap.size = g2 at *
   clear W
   rename World => W
   revert hHeld
   revert bb
   revert n23
   revert e3
   revert e2
   revert e1
   revert g3
   revert g2
   revert g1
   revert W
   exact c11100.go

  ·refine wanted_pos (by kernel_rfl) ?_
   go_simp
   clear hHeld
   refine hK.out _ _ ?_ (fun hHeld => ?_)
   ·exact HS.out _ (below_lit _ _ bb _)
   clear hK K
   try conv => arg 8; simp only [Act.put, List.setIfInBounds_toArray, List.set_cons_zero, List.set_cons_succ]
   have kA := Bk.new W 38 #[.slice none 0 0, .slice none 0 0, .slice none 0 0, .slice none 0 0, .slice none 0 0]
   have gA2 := bb.size
   replace e1 := e1.alloc (.cells #[.slice none 0 0, .slice none 0 0, .slice none 0 0, .slice none 0 0, .slice none 0 0] 38)
   replace e3 := e3.alloc (.cells #[.slice none 0 0, .slice none 0 0, .slice none 0 0, .slice none 0 0, .slice none 0 0] 38)
   replace bb := below_lit _ _ bb (.cells #[.slice none 0 0, .slice none 0 0, .slice none 0 0, .slice none 0 0, .slice none 0 0] 38)
   generalize W.alloc (.cells #[.slice none 0 0, .slice none 0 0, .slice none 0 0, .slice none 0 0, .slice none 0 0] 38) = W' at *
   generalize W.heap.size = gA at *
   clear W
   rename World => W
   revert hHeld
   revert bb
   revert gA2
   revert kA
   revert e3
   revert e1
   revert gA
   revert g3
   revert g1
   revert W
   exact c10110.go

  intro W g1 g2 e1 e2 bb hHeld
  refine wpAnyH_ready (rs := [8, 18, 28]) (by kernel_rfl) (by simp) ?_
  refine AllReadyH.cons (by simp only [List.getElem?_toArray]; rfl) (fun K hK => ?_) (AllReadyH.cons (by simp only [List.getElem?_toArray]; rfl) (fun K hK => ?_) (AllReadyH.cons (by simp only [List.getElem?_toArray]; rfl) (fun K hK => ?_) AllReadyH.nil))
  ·clear hHeld
   refine appStep elt_int (by kernel_rfl) _ _ rfl W w2.heap.size _ _ _ [] _ _ _ (ic (a.cls.take 12)) (by rfl) (by rfl) e1 HL1.out (HR1.out _ (below_call b1 bb)) (ic_one _) (by have := HM1.out; omega) bb.size ?_
   intro A1 c1 W' f1 hg hb hat
   rw [List.nil_append, Nat.zero_add] at f1
   rw [Nat.zero_add]
   refine hK.out _ _ ?_ (fun hHeld => ?_)
   ·exact HS.out _ (bb.trans hb)
   clear hK K
   try conv => arg 8; simp only [Act.put, List.setIfInBounds_toArray, List.set_cons_zero, List.set_cons_succ]
   replace e2 := e2.grown hg (e2.ne_types e1 (by decide))
   replace bb := bb.trans hb
   clear e1 hg hb hat
   have e1 := f1
   clear f1
   clear W
   rename World => W
   revert hHeld
   revert bb
   revert e2
   revert e1
   revert g2
   revert c1
   revert A1
   revert g1
   revert W
   exact c11001.go

  ·refine wanted_pos (by kernel_rfl) ?_
   go_simp
   clear hHeld
   refine hK.out _ _ ?_ (fun hHeld => ?_)
   ·exact HS.out _ (below_lit _ _ bb _)
   clear hK K
   try conv => arg 8; simp only [Act.put, List.setIfInBounds_toArray, List.set_cons_zero, List.set_cons_succ]
   have e3 := Ow.empty 50 1 W w2.heap.size bb.size
   have n23 := Ow.ne_new e2
   replace e1 := e1.alloc (.cells #[] 50)
   replace e2 := e2.alloc (.cells #[] 50)
   replace bb := below_lit _ _ bb (.cells #[] 50)
   generalize W.alloc (.cells #[] 50) = W' at *
   generalize W.heap.size = g3 at *
   clear W
   rename World => W
   revert hHeld
   revert bb
   revert n23
   revert e3
   revert e2
   revert e1
   revert g3
   revert g2
   revert g1
   revert W
   exact c11100.go

  ·refine wanted_pos (by kernel_rfl) ?_
   go_simp
   clear hHeld
   refine hK.out _ _ ?_ (fun hHeld => ?_)
   ·exact HS.out _ (below_lit _ _ bb _)
   clear hK K
   try conv => arg 8; simp only [Act.put, List.setIfInBounds_toArray, List.set_cons_zero, List.set_cons_succ]
   have kA := Bk.new W 38 #[.slice none 0 0, .slice none 0 0, .slice none 0 0, .slice none 0 0, .slice none 0 0]
   have gA2 := bb.size
   replace e1 := e1.alloc (.cells #[.slice none 0 0, .slice none 0 0, .slice none 0 0, .slice none 0 0, .slice none 0 0] 38)
   replace e2 := e2.alloc (.cells #[.slice none 0 0, .slice none 0 0, .slice none 0 0, .slice none 0 0, .slice none 0 0] 38)
   replace bb := below_lit _ _ bb (.cells #[.slice none 0 0, .slice none 0 0, .slice none 0 0, .slice none 0 0, .slice none 0 0] 38)
   generalize W.alloc (.cells #[.slice none 0 0, .slice none 0 0, .slice none 0 0, .slice none 0 0, .slice none 0 0] 38) = W' at *
   generalize W.heap.size = gA at *
   clear W
   rename World => W
   revert hHeld
   revert bb
   revert gA2
   revert kA
   revert e2
   revert e1
   revert gA
   revert g2
   revert g1
   revert W
   exact c11010.go

  intro W g2 g3 gA e2 e3 kA gA2 n23 bb hHeld
  refine wpAnyH_ready (rs := [0]) (by kernel_rfl) (by simp) ?_
  refine AllReadyH.cons (by simp only [List.getElem?_toArray]; rfl) (fun K hK => ?_) AllReadyH.nil
  refine wanted_pos (by kernel_rfl) ?_
  go_simp
  clear hHeld
  refine hK.out _ _ ?_ (fun hHeld => ?_)
  ·exact HS.out _ (below_lit _ _ bb _)
  clear hK K
  try conv => arg 8; simp only [Act.put, List.setIfInBounds_toArray, List.set_cons_zero, List.set_cons_succ]
  have e1 := Ow.empty 3 1 W w2.heap.size bb.size
  replace e2 := e2.alloc (.cells #[] 3)
  replace e3 := e3.alloc (.cells #[] 3)
  replace kA := kA.alloc (.cells #[] 3)
  replace bb := below_lit _ _ bb (.cells #[] 3)
  generalize W.alloc (.cells #[] 3) = W' at *
  generalize W.heap.size = g1 at *
  clear W
  rename World => W
  revert hHeld
  revert bb
  revert n23
  revert gA2
  revert kA
  revert e3
  revert e2
  revert e1
  revert gA
  revert g3
  revert g2
  revert g1
  revert W
  exact c11110.go

  intro W g1 A1 c1 gA e1 kA gA2 bb hHeld
  refine wpAnyH_ready (rs := [9, 18]) (by kernel_rfl) (by simp) ?_
  refine AllReadyH.cons (by simp only [List.getElem?_toArray]; rfl) (fun K hK => ?_) (AllReadyH.cons (by simp only [List.getElem?_toArray]; rfl) (fun K hK => ?_) AllReadyH.nil)
  ·refine wanted_pos (by kernel_rfl) ?_
   go_simp
   clear hHeld
   refine hK.out _ _ ?_ (fun hHeld => ?_)
   ·exact HS.out _ (below_lit _ _ bb _)
   clear hK K
   try conv => arg 8; simp only [Act.put, List.setIfInBounds_toArray, List.set_cons_zero, List.set_cons_succ]
   have e2 := Ow.empty 50 1 W w2.heap.size bb.size
   replace e1 := e1.alloc (.cells #[] 50)
   replace kA := kA.alloc (.cells #[] 50)
   replace bb := below_lit _ _ bb (.cells #[] 50)
   generalize W.alloc (.cells #[] 50) = W' at *
   generalize W.heap.size = g2 at *
   clear W
   rename World => W
   revert hHeld
   revert bb
   revert gA2
   revert kA
   revert e2
   revert e1
   revert gA
   revert g2
   revert c1
   revert A1
   revert g1
   revert W
   exact c11011.go

  ·refine wanted_pos (by kernel_rfl) ?_
   go_simp
   clear hHeld
   refine hK.out _ _ ?_ (fun hHeld => ?_)
   ·exact HS.out _ (below_lit _ _ bb _)
   clear hK K
   try conv => arg 8; simp only [Act.put, List.setIfInBounds_toArray, List.set_cons_zero, List.set_cons_succ]
   have e3 := Ow.empty 50 1 W w2.heap.size bb.size
   replace e1 := e1.alloc (.cells #[] 50)
   replace kA := kA.alloc (.cells #[] 50)
   replace bb := below_lit _ _ bb (.cells #[] 50)
   generalize W.alloc (.cells #[] 50) = W' at *
   generalize W.heap.size = g3 at *
   clear W
   rename World => W
   revert hHeld
   revert bb
   revert gA2
   revert kA
   revert e3
   revert e1
   revert gA
   revert g3
   revert c1
   revert A1
   revert g1
   revert W
   exact c10111.go

  intro W g1 A1 c1 g3 e1 e3 bb hHeld
  refine wpAnyH_ready (rs := [9, 28]) (by kernel_rfl) (by simp) ?_
  refine AllReadyH.cons (by simp only [List.getElem?_toArray]; rfl) (fun K hK => ?_) (AllReadyH.cons (by simp only [List.getElem?_toArray]; rfl) (fun K hK => ?_) AllReadyH.nil)
  ·refine wanted_pos (by kernel_rfl) ?_
   go_simp
   clear hHeld
   refine hK.out _ _ ?_ (fun hHeld => ?_)
   ·exact HS.out _ (below_lit _ _ bb _)
   clear hK K
   try conv => arg 8; simp only [Act.put, List.setIfInBounds_toArray, List.set_cons_zero, List.set_cons_succ]
   have e2 := Ow.empty 50 1 W w2.heap.size bb.size
   have n23 := ne_symm (Ow.ne_new e3)
   replace e1 := e1.alloc (.cells #[] 50)
   replace e3 := e3.alloc (.cells #[] 50)
   replace bb := below_lit _ _ bb (.cells #[] 50)
   generalize W.alloc (.cells #[] 50) = W' at *
   generalize W.heap.size = g2 at *
   clear W
   rename World => W
   revert hHeld
   revert bb
   revert n23
   revert e3
   revert e2
   revert e1
   revert g3
   revert g2
   revert c1
   revert A1
   revert g1
   revert W
   exact c11101.go

  ·refine wanted_pos (by kernel_rfl) ?_
   go_simp
   clear hHeld
   refine hK.out _ _ ?_ (fun hHeld => ?_)
   ·exact HS.out _ (below_lit _ _ bb _)
   clear hK K
   try conv => arg 8; simp only [Act.put, List.setIfInBounds_toArray, List.set_cons_zero, List.set_cons_succ]
   have kA := Bk.new W 38 #[.slice none 0 0, .slice none 0 0, .slice none 0 0, .slice none 0 0, .slice none 0 0]
   have gA2 := bb.size
   replace e1 := e1.alloc (.cells #[.slice none 0 0, .slice none 0 0, .slice none 0 0, .slice none 0 0, .slice none 0 0] 38)
   replace e3 := e3.alloc (.cells #[.slice none 0 0, .slice none 0 0, .slice none 0 0, .slice none 0 0, .slice none 0 0] 38)
   replace bb := below_lit _ _ bb (.cells #[.slice none 0 0, .slice none 0 0, .slice none 0 0, .slice none 0 0, .slice none 0 0] 38)
   generalize W.alloc (.cells #[.slice none 0 0, .slice none 0 0, .slice none 0 0, .slice none 0 0, .slice none 0 0] 38) = W' at *
   generalize W.heap.size = gA at *
   clear W
   rename World => W
   revert hHeld
   revert bb
   revert gA2
   revert kA
   revert e3
   revert e1
   revert gA
   revert g3
   revert c1
   revert A1
   revert g1
   revert W
   exact c10111.go

  intro W g1 g3 gA e1 e3 kA gA2 bb hHeld
  refine wpAnyH_ready (rs := [8, 9]) (by kernel_rfl) (by simp) ?_
  refine AllReadyH.cons (by simp only [List.getElem?_toArray]; rfl) (fun K hK => ?_) (AllReadyH.cons (by simp only [List.getElem?_toArray]; rfl) (fun K hK => ?_) AllReadyH.nil)
  ·clear hHeld
   refine appStep elt_int (by kernel_rfl) _ _ rfl W w2.heap.size _ _ _ [] _ _ _ (ic (a.cls.take 12)) (by rfl) (by rfl) e1 HL1.out (HR1.out _ (below_call b1 bb)) (ic_one _) (by have := HM1.out; omega) bb.size ?_
   intro A1 c1 W' f1 hg hb hat
   rw [List.nil_append, Nat.zero_add] at f1
   rw [Nat.zero_add]
   refine hK.out _ _ ?_ (fun hHeld => ?_)
   ·exact HS.out _ (bb.trans hb)
   clear hK K
   try conv => arg 8; simp only [Act.put, List.setIfInBounds_toArray, List.set_cons_zero, List.set_cons_succ]
   replace e3 := e3.grown hg (e3.ne_types e1 (by decide))
   replace kA := kA.grown hg (kA.ne_own (by decide) e1)
   replace bb := bb.trans hb
   clear e1 hg hb hat
   have e1 := f1
   clear f1
   clear W
   rename World => W
   revert hHeld
   revert bb
   revert gA2
   revert kA
   revert e3
   revert e1
   revert gA
   revert g3
   revert c1
   revert A1
   revert g1
   revert W
   exact c10111.go

  ·refine wanted_pos (by kernel_rfl) ?_
   go_simp
   clear hHeld
   refine hK.out _ _ ?_ (fun hHeld => ?_)
   ·exact HS.out _ (below_lit _ _ bb _)
   clear hK K
   try conv => arg 8; simp only [Act.put, List.setIfInBounds_toArray, List.set_cons_zero, List.set_cons_succ]
   have e2 := Ow.empty 50 1 W w2.heap.size bb.size
   have n23 := ne_symm (Ow.ne_new e3)
   replace e1 := e1.alloc (.cells #[] 50)
   replace e3 := e3.alloc (.cells #[] 50)
   replace kA := kA.alloc (.cells #[] 50)
   replace bb := below_lit _ _ bb (.cells #[] 50)
   generalize W.alloc (.cells #[] 50) = W' at *
   generalize W.heap.size = g2 at *
   clear W
   rename World => W
   revert hHeld
   revert bb
   revert n23
   revert gA2
   revert kA
   revert e3
   revert e2
   revert e1
   revert gA
   revert g3
   revert g2
   revert g1
   revert W
   exact c11110.go

  intro W g1 A1 c1 g2 e1 e2 bb hHeld
  refine wpAnyH_ready (rs := [17, 18, 28]) (by kernel_rfl) (by simp) ?_
  refine AllReadyH.cons (by simp only [List.getElem?_toArray]; rfl) (fun K hK => ?_) (AllReadyH.cons (by simp only [List.getElem?_toArray]; rfl) (fun K hK => ?_) (AllReadyH.cons (by simp only [List.getElem?_toArray]; rfl) (fun K hK => ?_) AllReadyH.nil))
  ·clear hHeld
   refine appStep elt_u64 (by kernel_rfl) _ _ rfl W w2.heap.size _ _ _ [] _ _ _ (uc (a.fe.take 9)) (by rfl) (by rfl) e2 HL2.out (HR2.out _ (below_call b1 bb)) (uc_one _) (by have := HM2.out; omega) bb.size ?_
   intro A2 c2 W' f2 hg hb hat
   rw [List.nil_append, Nat.zero_add] at f2
   rw [Nat.zero_add]
   refine hK.out _ _ ?_ (fun hHeld => ?_)
   ·exact HS.out _ (bb.trans hb)
   clear hK K
   try conv => arg 8; simp only [Act.put, List.setIfInBounds_toArray, List.set_cons_zero, List.set_cons_succ]
   replace e1 := e1.grown hg (e1.ne_types e2 (by decide))
   replace bb := bb.trans hb
   clear e2 hg hb hat
   have e2 := f2
   clear f2
   clear W
   rename World => W
   revert hHeld
   revert bb
   revert e2
   revert e1
   revert c2
   revert A2
   revert g2
   revert c1
   revert A1
   revert g1
   revert W
   exact c11002.go

  ·refine wanted_pos (by kernel_rfl) ?_
   go_simp
   clear hHeld
   refine hK.out _ _ ?_ (fun hHeld => ?_)
   ·exact HS.out _ (below_lit _ _ bb _)
   clear hK K
   try conv => arg 8; simp only [Act.put, List.setIfInBounds_toArray, List.set_cons_zero, List.set_cons_succ]
   have e3 := Ow.empty 50 1 W w2.heap.size bb.size
   have n23 := Ow.ne_new e2
   replace e1 := e1.alloc (.cells #[] 50)
   replace e2 := e2.alloc (.cells #[] 50)
   replace bb := below_lit _ _ bb (.cells #[] 50)
   generalize W.alloc (.cells #[] 50) = W' at *
   generalize W.heap.size = g3 at *
   clear W
   rename World => W
   revert hHeld
   revert bb
   revert n23
   revert e3
   revert e2
   revert e1
   revert g3
   revert g2
   revert c1
   revert A1
   revert g1
   revert W
   exact c11101.go

  ·refine wanted_pos (by kernel_rfl) ?_
   go_simp
   clear hHeld
   refine hK.out _ _ ?_ (fun hHeld => ?_)
   ·exact HS.out _ (below_lit _ _ bb _)
   clear hK K
   try conv => arg 8; simp only [Act.put, List.setIfInBounds_toArray, List.set_cons_zero, List.set_cons_succ]
   have kA := Bk.new W 38 #[.slice none 0 0, .slice none 0 0, .slice none 0 0, .slice none 0 0, .slice none 0 0]
   have gA2 := bb.size
   replace e1 := e1.alloc (.cells #[.slice none 0 0, .slice none 0 0, .slice none 0 0, .slice none 0 0, .slice none 0 0] 38)
   replace e2 := e2.alloc (.cells #[.slice none 0 0, .slice none 0 0, .slice none 0 0, .slice none 0 0, .slice none 0 0] 38)
   replace bb := below_lit _ _ bb (.cells #[.slice none 0 0, .slice none 0 0, .slice none 0 0, .slice none 0 0, .slice none 0 0] 38)
   generalize W.alloc (.cells #[.slice none 0 0, .slice none 0 0, .slice none 0 0, .slice none 0 0, .slice none 0 0] 38) = W' at *
   generalize W.heap.size = gA at *
   clear W
   rename World => W
   revert hHeld
   revert bb
   revert gA2
   revert kA
   revert e2
   revert e1
   revert gA
   revert g2
   revert c1
   revert A1
   revert g1
   revert W
   exact c11011.go

  intro W g1 g2 gA e1 e2 kA gA2 bb hHeld
  refine wpAnyH_ready (rs := [8, 18]) (by kernel_rfl) (by simp) ?_
  refine AllReadyH.cons (by simp only [List.getElem?_toArray]; rfl) (fun K hK => ?_) (AllReadyH.cons (by simp only [List.getElem?_toArray]; rfl) (fun K hK => ?_) AllReadyH.nil)
  ·clear hHeld
   refine appStep elt_int (by kernel_rfl) _ _ rfl W w2.heap.size _ _ _ [] _ _ _ (ic (a.cls.take 12)) (by rfl) (by rfl) e1 HL1.out (HR1.out _ (below_call b1 bb)) (ic_one _) (by have := HM1.out; omega) bb.size ?_
   intro A1 c1 W' f1 hg hb hat
   rw [List.nil_append, Nat.zero_add] at f1
   rw [Nat.zero_add]
   refine hK.out _ _ ?_ (fun hHeld => ?_)
   ·exact HS.out _ (bb.trans hb)
   clear hK K
   try conv => arg 8; simp only [Act.put, List.setIfInBounds_toArray, List.set_cons_zero, List.set_cons_succ]
   replace e2 := e2.grown hg (e2.ne_types e1 (by decide))
   replace kA := kA.grown hg (kA.ne_own (by decide) e1)
   replace bb := bb.trans hb
   clear e1 hg hb hat
   have e1 := f1
   clear f1
   clear W
   rename World => W
   revert hHeld
   revert bb
   revert gA2
   revert kA
   revert e2
   revert e1
   revert gA
   revert g2
   revert c1
   revert A1
   revert g1
   revert W
   exact c11011.go

  ·refine wanted_pos (by kernel_rfl) ?_
   go_simp
   clear hHeld
   refine hK.out _ _ ?_ (fun hHeld => ?_)
   ·exact HS.out _ (below_lit _ _ bb _)
   clear hK K
   try conv => arg 8; simp only [Act.put, List.setIfInBounds_toArray, List.set_cons_zero, List.set_cons_succ]
   have e3 := Ow.empty 50 1 W w2.heap.size bb.size
   have n23 := Ow.ne_new e2
   replace e1 := e1.alloc (.cells #[] 50)
   replace e2 := e2.alloc (.cells #[] 50)
   replace kA := kA.alloc (.cells #[] 50)
   replace bb := below_lit _ _ bb (.cells #[] 50)
   generalize W.alloc (.cells #[] 50) = W' at *
   generalize W.heap.size = g3 at *
   clear W
   rename World => W
   revert hHeld
   revert bb
   revert n23
   revert gA2
   revert kA
   revert e3
   revert e2
   revert e1
   revert gA
   revert g3
   revert g2
   revert g1
   revert W
   exact c11110.go

  intro W g1 g2 g3 e1 e2 e3 n23 bb hHeld
  refine wpAnyH_ready (rs := [8, 28]) (by kernel_rfl) (by simp) ?_
  refine AllReadyH.cons (by simp only [List.getElem?_toArray]; rfl) (fun K hK => ?_) (AllReadyH.cons (by simp only [List.getElem?_toArray]; rfl) (fun K hK => ?_) AllReadyH.nil)
  ·clear hHeld
   refine appStep elt_int (by kernel_rfl) _ _ rfl W w2.heap.size _ _ _ [] _ _ _ (ic (a.cls.take 12)) (by rfl) (by rfl) e1 HL1.out (HR1.out _ (below_call b1 bb)) (ic_one _) (by have := HM1.out; omega) bb.size ?_
   intro A1 c1 W' f1 hg hb hat
   rw [List.nil_append, Nat.zero_add] at f1
   rw [Nat.zero_add]
   refine hK.out _ _ ?_ (fun hHeld => ?_)
   ·exact HS.out _ (bb.trans hb)
   clear hK K
   try conv => arg 8; simp only [Act.put, List.setIfInBounds_toArray, List.set_cons_zero, List.set_cons_succ]
   replace e2 := e2.grown hg (e2.ne_types e1 (by decide))
   replace e3 := e3.grown hg (e3.ne_types e1 (by decide))
   replace bb := bb.trans hb
   clear e1 hg hb hat
   have e1 := f1
   clear f1
   clear W
   rename World => W
   revert hHeld
   revert bb
   revert n23
   revert e3
   revert e2
   revert e1
   revert g3
   revert g2
   revert c1
   revert A1
   revert g1
   revert W
   exact c11101.go

  ·refine wanted_pos (by kernel_rfl) ?_
   go_simp
   clear hHeld
   refine hK.out _ _ ?_ (fun hHeld => ?_)
   ·exact HS.out _ (below_lit _ _ bb _)
   clear hK K
   try conv => arg 8; simp only [Act.put, List.setIfInBounds_toArray, List.set_cons_zero, List.set_cons_succ]
   have kA := Bk.new W 38 #[.slice none 0 0, .slice none 0 0, .slice none 0 0, .slice none 0 0, .slice none 0 0]
   have gA2 := bb.size
   replace e1 := e1.alloc (.cells #[.slice none 0 0, .slice none 0 0, .slice none 0 0, .slice none 0 0, .slice none 0 0] 38)
   replace e2 := e2.alloc (.cells #[.slice none 0 0, .slice none 0 0, .slice none 0 0, .slice none 0 0, .slice none 0 0] 38)
   replace e3 := e3.alloc (.cells #[.slice none 0 0, .slice none 0 0, .slice none 0 0, .slice none 0 0, .slice none 0 0] 38)
   replace bb := below_lit _ _ bb (.cells #[.slice none 0 0, .slice none 0 0, .slice none 0 0, .slice none 0 0, .slice none 0 0] 38)
   generalize W.alloc (.cells #[.slice none 0 0, .slice none 0 0, .slice none 0 0, .slice none 0 0, .slice none 0 0] 38) = W' at *
   generalize W.heap.size = gA at *
   clear W
   rename World => W
   revert hHeld
   revert bb
   revert n23
   revert gA2
   revert kA
   revert e3
   revert e2
   revert e1
   revert gA
   revert g3
   revert g2
   revert g1
   revert W
   exact c11110.go

  intro W g1 A1 c1 g3 gA e1 e3 kA gA2 bb hHeld
  refine wpAnyH_ready (rs := [9]) (by kernel_rfl) (by simp) ?_
  refine AllReadyH.cons (by simp only [List.getElem?_toArray]; rfl) (fun K hK => ?_) AllReadyH.nil
  refine wanted_pos (by kernel_rfl) ?_
  go_simp
  clear hHeld
  refine hK.out _ _ ?_ (fun hHeld => ?_)
  ·exact HS.out _ (below_lit _ _ bb _)
  clear hK K
  try conv => arg 8; simp only [Act.put, List.setIfInBounds_toArray, List.set_cons_zero, List.set_cons_succ]
  have e2 := Ow.empty 50 1 W w2.heap.size bb.size
  have n23 := ne_symm (Ow.ne_new e3)
  replace e1 := e1.alloc (.cells #[] 50)
  replace e3 := e3.alloc (.cells #[] 50)
  replace kA := kA.alloc (.cells #[] 50)
  replace bb := below_lit _ _ bb (.cells #[] 50)
  generalize W.alloc (.cells #[] 50) = W' at *
  generalize W.heap.size = g2 at *
  clear W
  rename World => W
  revert hHeld
  revert bb
  revert n23
  revert gA2
  revert kA
  revert e3
  revert e2
  revert e1
  revert gA
  revert g3
  revert g2
  revert c1
  revert A1
  revert g1
  revert W
  exact c11111.go

  intro W g1 A1 c1 g2 A2 c2 e1 e2 bb hHeld
  refine wpAnyH_ready (rs := [18, 28]) (by kernel_rfl) (by simp) ?_
  refine AllReadyH.cons (by simp only [List.getElem?_toArray]; rfl) (fun K hK => ?_) (AllReadyH.cons (by simp only [List.getElem?_toArray]; rfl) (fun K hK => ?_) AllReadyH.nil)
  ·refine wanted_pos (by kernel_rfl) ?_
   go_simp
   clear hHeld
   refine hK.out _ _ ?_ (fun hHeld => ?_)
   ·exact HS.out _ (below_lit _ _ bb _)
   clear hK K
   try conv => arg 8; simp only [Act.put, List.setIfInBounds_toArray, List.set_cons_zero, List.set_cons_succ]
   have e3 := Ow.empty 50 1 W w2.heap.size bb.size
   have n23 := Ow.ne_new e2
   replace e1 := e1.alloc (.cells #[] 50)
   replace e2 := e2.alloc (.cells #[] 50)
   replace bb := below_lit _ _ bb (.cells #[] 50)
   generalize W.alloc (.cells #[] 50) = W' at *
   generalize W.heap.size = g3 at *
   clear W
   rename World => W
   revert hHeld
   revert bb
   revert n23
   revert e3
   revert e2
   revert e1
   revert g3
   revert c2
   revert A2
   revert g2
   revert c1
   revert A1
   revert g1
   revert W
   exact c11102.go

  ·refine wanted_pos (by kernel_rfl) ?_
   go_simp
   clear hHeld
   refine hK.out _ _ ?_ (fun hHeld => ?_)
   ·exact HS.out _ (below_lit _ _ bb _)
   clear hK K
   try conv => arg 8; simp only [Act.put, List.setIfInBounds_toArray, List.set_cons_zero, List.set_cons_succ]
   have kA := Bk.new W 38 #[.slice none 0 0, .slice none 0 0, .slice none 0 0, .slice none 0 0, .slice none 0 0]
   have gA2 := bb.size
   replace e1 := e1.alloc (.cells #[.slice none 0 0, .slice none 0 0, .slice none 0 0, .slice none 0 0, .slice none 0 0] 38)
   replace e2 := e2.alloc (.cells #[.slice none 0 0, .slice none 0 0, .slice none 0 0, .slice none 0 0, .slice none 0 0] 38)
   replace bb := below_lit _ _ bb (.cells #[.slice none 0 0, .slice none 0 0, .slice none 0 0, .slice none 0 0, .slice none 0 0] 38)
   generalize W.alloc (.cells #[.slice none 0 0, .slice none 0 0, .slice none 0 0, .slice none 0 0, .slice none 0 0] 38) = W' at *
   generalize W.heap.size = gA at *
   clear W
   rename World => W
   revert hHeld
   revert bb
   revert gA2
   revert kA
   revert e2
   revert e1
   revert gA
   revert c2
   revert A2
   revert g2
   revert c1
   revert A1
   revert g1
   revert W
   exact c11012.go

  intro W g1 A1 c1 g2 gA e1 e2 kA gA2 bb hHeld
  refine wpAnyH_ready (rs := [17, 18]) (by kernel_rfl) (by simp) ?_
  refine AllReadyH.cons (by simp only [List.getElem?_toArray]; rfl) (fun K hK => ?_) (AllReadyH.cons (by simp only [List.getElem?_toArray]; rfl) (fun K hK => ?_) AllReadyH.nil)
  ·clear hHeld
   refine appStep elt_u64 (by kernel_rfl) _ _ rfl W w2.heap.size _ _ _ [] _ _ _ (uc (a.fe.take 9)) (by rfl) (by rfl) e2 HL2.out (HR2.out _ (below_call b1 bb)) (uc_one _) (by have := HM2.out; omega) bb.size ?_
   intro A2 c2 W' f2 hg hb hat
   rw [List.nil_append, Nat.zero_add] at f2
   rw [Nat.zero_add]
   refine hK.out _ _ ?_ (fun hHeld => ?_)
   ·exact HS.out _ (bb.trans hb)
   clear hK K
   try conv => arg 8; simp only [Act.put, List.setIfInBounds_toArray, List.set_cons_zero, List.set_cons_succ]
   replace e1 := e1.grown hg (e1.ne_types e2 (by decide))
   replace kA := kA.grown hg (kA.ne_own (by decide) e2)
   replace bb := bb.trans hb
   clear e2 hg hb hat
   have e2 := f2
   clear f2
   clear W
   rename World => W
   revert hHeld
   revert bb
   revert gA2
   revert kA
   revert e2
   revert e1
   revert gA
   revert c2
   revert A2
   revert g2
   revert c1
   revert A1
   revert g1
   revert W
   exact c11012.go

  ·refine wanted_pos (by kernel_rfl) ?_
   go_simp
   clear hHeld
   refine hK.out _ _ ?_ (fun hHeld => ?_)
   ·exact HS.out _ (below_lit _ _ bb _)
   clear hK K
   try conv => arg 8; simp only [Act.put, List.setIfInBounds_toArray, List.set_cons_zero, List.set_cons_succ]
   have e3 := Ow.empty 50 1 W w2.heap.size bb.size
   have n23 := Ow.ne_new e2
   replace e1 := e1.alloc (.cells #[] 50)
   replace e2 := e2.alloc (.cells #[] 50)
   replace kA := kA.alloc (.cells #[] 50)
   replace bb := below_lit _ _ bb (.cells #[] 50)
   generalize W.alloc (.cells #[] 50) = W' at *
   generalize W.heap.size = g3 at *
   clear W
   rename World => W
   revert hHeld
   revert bb
   revert n23
   revert gA2
   revert kA
   revert e3
   revert e2
   revert e1
   revert gA
   revert g3
   revert g2
   revert c1
   revert A1
   revert g1
   revert W
   exact c11111.go

  intro W g1 A1 c1 g2 g3 e1 e2 e3 n23 bb hHeld
  refine wpAnyH_ready (rs := [17, 28]) (by kernel_rfl) (by simp) ?_
  refine AllReadyH.cons (by simp only [List.getElem?_toArray]; rfl) (fun K hK => ?_) (AllReadyH.cons (by simp only [List.getElem?_toArray]; rfl) (fun K hK => ?_) AllReadyH.nil)
  ·clear hHeld
   refine appStep elt_u64 (by kernel_rfl) _ _ rfl W w2.heap.size _ _ _ [] _ _ _ (uc (a.fe.take 9)) (by rfl) (by rfl) e2 HL2.out (HR2.out _ (below_call b1 bb)) (uc_one _) (by have := HM2.out; omega) bb.size ?_
   intro A2 c2 W' f2 hg hb hat
   rw [List.nil_append, Nat.zero_add] at f2
   rw [Nat.zero_add]
   refine hK.out _ _ ?_ (fun hHeld => ?_)
   ·exact HS.out _ (bb.trans hb)
   clear hK K
   try conv => arg 8; simp only [Act.put, List.setIfInBounds_toArray, List.set_cons_zero, List.set_cons_succ]
   have n23' := ne_app n23 hat (fun b q => (e3.blk b q).2.1)
   replace e1 := e1.grown hg (e1.ne_types e2 (by decide))
   replace e3 := e3.grown hg (fun b q1 q2 => n23 b q2 (by rw [q1]; rfl))
   replace bb := bb.trans hb
   clear e2 hg hb hat
   have e2 := f2
   clear f2
   clear n23
   have n23 := n23'
   clear n23'
   clear W
   rename World => W
   revert hHeld
   revert bb
   revert n23
   revert e3
   revert e2
   revert e1
   revert g3
   revert c2
   revert A2
   revert g2
   revert c1
   revert A1
   revert g1
   revert W
   exact c11102.go

  ·refine wanted_pos (by kernel_rfl) ?_
   go_simp
   clear hHeld
   refine hK.out _ _ ?_ (fun hHeld => ?_)
   ·exact HS.out _ (below_lit _ _ bb _)
   clear hK K
   try conv => arg 8; simp only [Act.put, List.setIfInBounds_toArray, List.set_cons_zero, List.set_cons_succ]
   have kA := Bk.new W 38 #[.slice none 0 0, .slice none 0 0, .slice none 0 0, .slice none 0 0, .slice none 0 0]
   have gA2 := bb.size
   replace e1 := e1.alloc (.cells #[.slice none 0 0, .slice none 0 0, .slice none 0 0, .slice none 0 0, .slice none 0 0] 38)
   replace e2 := e2.alloc (.cells #[.slice none 0 0, .slice none 0 0, .slice none 0 0, .slice none 0 0, .slice none 0 0] 38)
   replace e3 := e3.alloc (.cells #[.slice none 0 0, .slice none 0 0, .slice none 0 0, .slice none 0 0, .slice none 0 0] 38)
   replace bb := below_lit _ _ bb (.cells #[.slice none 0 0, .slice none 0 0, .slice none 0 0, .slice none 0 0, .slice none 0 0] 38)
   generalize W.alloc (.cells #[.slice none 0 0, .slice none 0 0, .slice none 0 0, .slice none 0 0, .slice none 0 0] 38) = W' at *
   generalize W.heap.size = gA at *
   clear W
   rename World => W
   revert hHeld
   revert bb
   revert n23
   revert gA2
   revert kA
   revert e3
   revert e2
   revert e1
   revert gA
   revert g3
   revert g2
   revert c1
   revert A1
   revert g1
   revert W
   exact c11111.go

  intro W g1 g2 g3 gA e1 e2 e3 kA gA2 n23 bb hHeld
  refine wpAnyH_ready (rs := [8]) (by kernel_rfl) (by simp) ?_
  refine AllReadyH.cons (by simp only [List.getElem?_toArray]; rfl) (fun K hK => ?_) AllReadyH.nil
  clear hHeld
  refine appStep elt_int (by kernel_rfl) _ _ rfl W w2.heap.size _ _ _ [] _ _ _ (ic (a.cls.take 12)) (by rfl) (by rfl) e1 HL1.out (HR1.out _ (below_call b1 bb)) (ic_one _) (by have := HM1.out; omega) bb.size ?_
  intro A1 c1 W' f1 hg hb hat
  rw [List.nil_append, Nat.zero_add] at f1
  rw [Nat.zero_add]
  refine hK.out _ _ ?_ (fun hHeld => ?_)
  ·exact HS.out _ (bb.trans hb)
  clear hK K
  try conv => arg 8; simp only [Act.put, List.setIfInBounds_toArray, List.set_cons_zero, List.set_cons_succ]
  replace e2 := e2.grown hg (e2.ne_types e1 (by decide))
  replace e3 := e3.grown hg (e3.ne_types e1 (by decide))
  replace kA := kA.grown hg (kA.ne_own (by decide) e1)
  replace bb := bb.trans hb
  clear e1 hg hb hat
  have e1 := f1
  clear f1
  clear W
  rename World => W
  revert hHeld
  revert bb
  revert n23
  revert gA2
  revert kA
  revert e3
  revert e2
  revert e1
  revert gA
  revert g3
  revert g2
  revert c1
  revert A1
  revert g1
  revert W
  exact c11111.go

  intro W g1 A1 c1 g2 A2 c2 gA e1 e2 kA gA2 bb hHeld
  refine wpAnyH_ready (rs := [18]) (by kernel_rfl) (by simp) ?_
  refine AllReadyH.cons (by simp only [List.getElem?_toArray]; rfl) (fun K hK => ?_) AllReadyH.nil
  refine wanted_pos (by kernel_rfl) ?_
  go_simp
  clear hHeld
  refine hK.out _ _ ?_ (fun hHeld => ?_)
  ·exact HS.out _ (below_lit _ _ bb _)
  clear hK K
  try conv => arg 8; simp only [Act.put, List.setIfInBounds_toArray, List.set_cons_zero, List.set_cons_succ]
  have e3 := Ow.empty 50 1 W w2.heap.size bb.size
  have n23 := Ow.ne_new e2
  replace e1 := e1.alloc (.cells #[] 50)
  replace e2 := e2.alloc (.cells #[] 50)
  replace kA := kA.alloc (.cells #[] 50)
  replace bb := below_lit _ _ bb (.cells #[] 50)
  generalize W.alloc (.cells #[] 50) = W' at *
  generalize W.heap.size = g3 at *
  clear W
  rename World => W
  revert hHeld
  revert bb
  revert n23
  revert gA2
  revert kA
  revert e3
  revert e2
  revert e1
  revert gA
  revert g3
  revert c2
  revert A2
  revert g2
  revert c1
  revert A1
  revert g1
  revert W
  exact c11112.go

  intro W g1 A1 c1 g2 A2 c2 g3 e1 e2 e3 n23 bb hHeld
  refine wpAnyH_ready (rs := [26, 28]) (by kernel_rfl) (by simp) ?_
  refine AllReadyH.cons (by simp only [List.getElem?_toArray]; rfl) (fun K hK => ?_) (AllReadyH.cons (by simp only [List.getElem?_toArray]; rfl) (fun K hK => ?_) AllReadyH.nil)
  ·clear hHeld
   refine appStep elt_u64 (by kernel_rfl) _ _ rfl W w2.heap.size _ _ _ [] _ _ _ (uc (a.be.take 9)) (by rfl) (by rfl) e3 HL3.out (HR3.out _ (below_call b1 bb)) (uc_one _) (by have := HM3.out; omega) bb.size ?_
   intro A3 c3 W' f3 hg hb hat
   rw [List.nil_append, Nat.zero_add] at f3
   rw [Nat.zero_add]
   refine hK.out _ _ ?_ (fun hHeld => ?_)
   ·exact HS.out _ (bb.trans hb)
   clear hK K
   try conv => arg 8; simp only [Act.put, List.setIfInBounds_toArray, List.set_cons_zero, List.set_cons_succ]
   have n23' := ne_symm (ne_app (ne_symm n23) hat (fun b q => (e2.blk b q).2.1))
   replace e1 := e1.grown hg (e1.ne_types e3 (by decide))
   replace e2 := e2.grown hg (fun b q1 q2 => n23 b (by rw [q1]; rfl) q2)
   replace bb := bb.trans hb
   clear e3 hg hb hat
   have e3 := f3
   clear f3
   clear n23
   have n23 := n23'
   clear n23'
   clear W
   rename World => W
   refine tkB 27 (v := ?_) (by assumption) ?_ ?_
   rotate_left 1
   ·intro w hSw; (try dsimp only at hSw); go_simp; try with_reducible rfl
   revert hHeld
   revert bb
   revert n23
   revert e3
   revert e2
   revert e1
   revert c3
   revert A3
   revert g3
   revert c2
   revert A2
   revert g2
   revert c1
   revert A1
   revert g1
   revert W
   exact c11103.go

  ·refine wanted_pos (by kernel_rfl) ?_
   go_simp
   clear hHeld
   refine hK.out _ _ ?_ (fun hHeld => ?_)
   ·exact HS.out _ (below_lit _ _ bb _)
   clear hK K
   try conv => arg 8; simp only [Act.put, List.setIfInBounds_toArray, List.set_cons_zero, List.set_cons_succ]
   have kA := Bk.new W 38 #[.slice none 0 0, .slice none 0 0, .slice none 0 0, .slice none 0 0, .slice none 0 0]
   have gA2 := bb.size
   replace e1 := e1.alloc (.cells #[.slice none 0 0, .slice none 0 0, .slice none 0 0, .slice none 0 0, .slice none 0 0] 38)
   replace e2 := e2.alloc (.cells #[.slice none 0 0, .slice none 0 0, .slice none 0 0, .slice none 0 0, .slice none 0 0] 38)
   replace e3 := e3.alloc (.cells #[.slice none 0 0, .slice none 0 0, .slice none 0 0, .slice none 0 0, .slice none 0 0] 38)
   replace bb := below_lit _ _ bb (.cells #[.slice none 0 0, .slice none 0 0, .slice none 0 0, .slice none 0 0, .slice none 0 0] 38)
   generalize W.alloc (.cells #[.slice none 0 0, .slice none 0 0, .slice none 0 0, .slice none 0 0, .slice none 0 0] 38) = W' at *
   generalize W.heap.size = gA at *
   clear W
   rename World => W
   revert hHeld
   revert bb
   revert n23
   revert gA2
   revert kA
   revert e3
   revert e2
   revert e1
   revert gA
   revert g3
   revert c2
   revert A2
   revert g2
   revert c1
   revert A1
   revert g1
   revert W
   exact c11112.go

  intro W g1 A1 c1 g2 g3 gA e1 e2 e3 kA gA2 n23 bb hHeld
  refine wpAnyH_ready (rs := [17]) (by kernel_rfl) (by simp) ?_
  refine AllReadyH.cons (by simp only [List.getElem?_toArray]; rfl) (fun K hK => ?_) AllReadyH.nil
  clear hHeld
  refine appStep elt_u64 (by kernel_rfl) _ _ rfl W w2.heap.size _ _ _ [] _ _ _ (uc (a.fe.take 9)) (by rfl) (by rfl) e2 HL2.out (HR2.out _ (below_call b1 bb)) (uc_one _) (by have := HM2.out; omega) bb.size ?_
  intro A2 c2 W' f2 hg hb hat
  rw [List.nil_append, Nat.zero_add] at f2
  rw [Nat.zero_add]
  refine hK.out _ _ ?_ (fun hHeld => ?_)
  ·exact HS.out _ (bb.trans hb)
  clear hK K
  try conv => arg 8; simp only [Act.put, List.setIfInBounds_toArray, List.set_cons_zero, List.set_cons_succ]
  have n23' := ne_app n23 hat (fun b q => (e3.blk b q).2.1)
  replace e1 := e1.grown hg (e1.ne_types e2 (by decide))
  replace e3 := e3.grown hg (fun b q1 q2 => n23 b q2 (by rw [q1]; rfl))
  replace kA := kA.grown hg (kA.ne_own (by decide) e2)
  replace bb := bb.trans hb
  clear e2 hg hb hat
  have e2 := f2
  clear f2
  clear n23
  have n23 := n23'
  clear n23'
  clear W
  rename World => W
  revert hHeld
  revert bb
  revert n23
  revert gA2
  revert kA
  revert e3
  revert e2
  revert e1
  revert gA
  revert g3
  revert c2
  revert A2
  revert g2
  revert c1
  revert A1
  revert g1
  revert W
  exact c11112.go

  intro W g1 A1 c1 g2 A2 c2 g3 A3 c3 e1 e2 e3 n23 bb hHeld
  refine wpAnyH_ready (rs := [28]) (by kernel_rfl) (by simp) ?_
  refine AllReadyH.cons (by simp only [List.getElem?_toArray]; rfl) (fun K hK => ?_) AllReadyH.nil
  refine wanted_pos (by kernel_rfl) ?_
  go_simp
  clear hHeld
  refine hK.out _ _ ?_ (fun hHeld => ?_)
  ·exact HS.out _ (below_lit _ _ bb _)
  clear hK K
  try conv => arg 8; simp only [Act.put, List.setIfInBounds_toArray, List.set_cons_zero, List.set_cons_succ]
  have kA := Bk.new W 38 #[.slice none 0 0, .slice none 0 0, .slice none 0 0, .slice none 0 0, .slice none 0 0]
  have gA2 := bb.size
  replace e1 := e1.alloc (.cells #[.slice none 0 0, .slice none 0 0, .slice none 0 0, .slice none 0 0, .slice none 0 0] 38)
  replace e2 := e2.alloc (.cells #[.slice none 0 0, .slice none 0 0, .slice none 0 0, .slice none 0 0, .slice none 0 0] 38)
  replace e3 := e3.alloc (.cells #[.slice none 0 0, .slice none 0 0, .slice none 0 0, .slice none 0 0, .slice none 0 0] 38)
  replace bb := below_lit _ _ bb (.cells #[.slice none 0 0, .slice none 0 0, .slice none 0 0, .slice none 0 0, .slice none 0 0] 38)
  generalize W.alloc (.cells #[.slice none 0 0, .slice none 0 0, .slice none 0 0, .slice none 0 0, .slice none 0 0] 38) = W' at *
  generalize W.heap.size = gA at *
  clear W
  rename World => W
  revert hHeld
  revert bb
  revert n23
  revert gA2
  revert kA
  revert e3
  revert e2
  revert e1
  revert gA
  revert c3
  revert A3
  revert g3
  revert c2
  revert A2
  revert g2
  revert c1
  revert A1
  revert g1
  revert W
  exact c11113.go

  intro W g1 A1 c1 g2 A2 c2 g3 gA e1 e2 e3 kA gA2 n23 bb hHeld
  refine wpAnyH_ready (rs := [26]) (by kernel_rfl) (by simp) ?_
  refine AllReadyH.cons (by simp only [List.getElem?_toArray]; rfl) (fun K hK => ?_) AllReadyH.nil
  clear hHeld
  refine appStep elt_u64 (by kernel_rfl) _ _ rfl W w2.heap.size _ _ _ [] _ _ _ (uc (a.be.take 9)) (by rfl) (by rfl) e3 HL3.out (HR3.out _ (below_call b1 bb)) (uc_one _) (by have := HM3.out; omega) bb.size ?_
  intro A3 c3 W' f3 hg hb hat
  rw [List.nil_append, Nat.zero_add] at f3
  rw [Nat.zero_add]
  refine hK.out _ _ ?_ (fun hHeld => ?_)
  ·exact HS.out _ (bb.trans hb)
  clear hK K
  try conv => arg 8; simp only [Act.put, List.setIfInBounds_toArray, List.set_cons_zero, List.set_cons_succ]
  have n23' := ne_symm (ne_app (ne_symm n23) hat (fun b q => (e2.blk b q).2.1))
  replace e1 := e1.grown hg (e1.ne_types e3 (by decide))
  replace e2 := e2.grown hg (fun b q1 q2 => n23 b (by rw [q1]; rfl) q2)
  replace kA := kA.grown hg (kA.ne_own (by decide) e3)
  replace bb := bb.trans hb
  clear e3 hg hb hat
  have e3 := f3
  clear f3
  clear n23
  have n23 := n23'
  clear n23'
  clear W
  rename World => W
  refine tkB 27 (v := ?_) (by assumption) ?_ ?_
  rotate_left 1
  ·intro w hSw; (try dsimp only at hSw); go_simp; try with_reducible rfl
  revert hHeld
  revert bb
  revert n23
  revert gA2
  revert kA
  revert e3
  revert e2
  revert e1
  revert gA
  revert c3
  revert A3
  revert g3
  revert c2
  revert A2
  revert g2
  revert c1
  revert A1
  revert g1
  revert W
  exact c11113.go

  intro W g1 A1 c1 g2 A2 c2 g3 A3 c3 gA e1 e2 e3 kA gA2 n23 bb hHeld
  refine wpAnyH_ready (rs := [29]) (by kernel_rfl) (by simp) ?_
  refine AllReadyH.cons (by simp only [List.getElem?_toArray]; rfl) (fun K hK => ?_) AllReadyH.nil
  refine wanted_pos (by kernel_rfl) ?_
  have z0 := box_cells kA 0 rfl
  have z1 := box_cells kA 1 rfl
  have z2 := box_cells kA 2 rfl
  have z3 := box_cells kA 3 rfl
  have z4 := box_cells kA 4 rfl
  have q0 := kA.frozen 0
  have q1 := kA.frozen 1
  have q2 := kA.frozen 2
  have q3 := kA.frozen 3
  have q4 := kA.frozen 4
  go_simp
  clear hHeld
  have hbS := store5_below bb gA2 (.slice A1 m1 c1) (.slice none 0 0) (.slice none 0 0) (.slice A2 m2 c2) (.slice A3 m3 c3)
  refine hK.out _ _ ?_ (fun hHeld => ?_)
  ·exact HS.out _ hbS
  clear hK K
  try conv => arg 8; simp only [Act.put, List.setIfInBounds_toArray, List.set_cons_zero, List.set_cons_succ]
  refine wpAnyH_done (by kernel_rfl) ?_ _
  go_wp2_with fail
  go_meet
  exact few_end bb gA2 kA e1 e2 e3

 case rest =>
  obtain ⟨gA, A1, c1, A2, c2, A3, c3, rfl, hgB, kA, e1, e2, e3, bb⟩ := hcut
  have hD0 : ∀ b, (A1.map (·.block) = some b ∨ A2.map (·.block) = some b ∨ A3.map (·.block) = some b) → b < wc.heap.size ∧ (none : Option Addr).map (·.block) ≠ some b ∧ b ≠ gA := fun b hb => by
   rcases hb with hb | hb | hb
   ·exact ⟨(e1.blk b hb).2.1, by simp, fun e => kA.ne_own (by decide) e1 (by rw [hb, e])⟩
   ·exact ⟨(e2.blk b hb).2.1, by simp, fun e => kA.ne_own (by decide) e2 (by rw [hb, e])⟩
   ·exact ⟨(e3.blk b hb).2.1, by simp, fun e => kA.ne_own (by decide) e3 (by rw [hb, e])⟩
  have hDB0 : ∀ b, (A1.map (·.block) = some b ∨ A2.map (·.block) = some b ∨ A3.map (·.block) = some b) → w2.heap.size ≤ b := fun b hb => by
   rcases hb with hb | hb | hb
   ·exact (e1.blk b hb).1
   ·exact (e2.blk b hb).1
   ·exact (e3.blk b hb).1
  have hP0 : ∀ b, (A1.map (·.block) = some b ∨ A2.map (·.block) = some b ∨ A3.map (·.block) = some b) → Plain wc b := fun b hb => by
   rcases hb with hb | hb | hb
   ·exact e1.plain hb
   ·exact e2.plain hb
   ·exact e3.plain hb
  have HQ1 := Lib.hid e1.hd
  have HQ2 := Lib.hid e2.hd
  have HQ3 := Lib.hid e3.hd
  go_wp2
  go_loopw [4] (fun iv wr => ∃ (i : Nat) (A : Option Addr) (c : Nat) (css : List (List Value)) (D : Nat → Prop), i ≤ 8 ∧ i ≤ v.fn ∧ iv = .int .i64 i ∧ Bk wr gx 38 #[.slice v.ca v.cn v.cc, .slice v.fa v.fn v.fc, .slice v.ba v.bn v.bc, .slice v.ea v.en v.ec, .slice v.ga v.gn v.gc] ∧ Bk wr gt 38 #[.slice none 0 0, .slice none 0 0, .slice none 0 0, .slice none 0 0, .slice none 0 0] ∧ Bk wr gA 38 #[.slice A1 m1 c1, .slice A i c, .slice none 0 0, .slice A2 m2 c2, .slice A3 m3 c3] ∧ FwL w2 wr w2.heap.size gA D A i c css ((a.fore.take i).map (·.take 8)) ∧ Rd wr D A1 m1 (a.cls.take 12) ∧ RdU wr D A2 m2 (a.fe.take 9) ∧ RdU wr D A3 m3 (a.be.take 9) ∧ (∀ b, D b → w2.heap.size ≤ b) ∧ (A.map (·.block) ≠ some gA)) (fun iv _ => v.fn - (intOf iv).toNat)
  case atStart => exact ⟨0, none, 0, [], fun b => A1.map (·.block) = some b ∨ A2.map (·.block) = some b ∨ A3.map (·.block) = some b, by omega, by omega, rfl, kx.below bb hg1, kt.below bb hg2, kA, ⟨Ow.nil _ _ _ _, RowOf.nil, hD0, bb, hP0⟩, rd_block e1 (fun b h => .inl h), rdU_block e2 HE.out.1 (fun b h => .inr (.inl h)), rdU_block e3 HE.out.2 (fun b h => .inr (.inr h)), hDB0, by simp⟩
  case round =>
   obtain ⟨i, A, c, css, D, hi8, hin, rfl, kx, kt, kA, hfw, hr1, hr2, hr3, hDB, hAg⟩ := hrel
   have hBw : w2.heap.size ≤ wr.heap.size := hfw.bl.size
   have y1 := box_cells kx 1 rfl
   have HFW := Lib.hid hfw
   have hcapi : v.fn ≤ v.fc ∧ v.fc ≤ 9223372036854775807 := HD4.out
   have bwr := below_call b1 hfw.bl
   by_cases hlt : i < v.fn
   ·by_cases hlt8 : i < 8
    ·obtain ⟨row, hrow⟩ := at_some a.fore i (by have h1 := HH.out.1.t.len; change _ = v.fn at h1; omega)
     obtain ⟨bf, of', hfa, hbf, hcc⟩ := HH.out.1.t.pos (show 0 < v.fn by omega)
     change v.fa = _ at hfa
     change bf < w.heap.size at hbf
     obtain ⟨cs, ⟨R, nr, cr, rfl, hR0, hRd⟩, hcc2⟩ := hcc i row hrow
     have hR := hR0.call bwr
     have x0 := (bwr.cell (p := ⟨bf, of' + i * 1 + 0, none⟩) hbf).trans (hcc2 0 _ rfl)
     rw [Nat.mul_one, Nat.add_zero] at x0
     have hbf2 : bf < w2.heap.size := by omega
     have hnl := hR.len
     obtain ⟨m, hm⟩ : ∃ m : Nat, m = min nr 8 := ⟨_, rfl⟩
     have ma : min (nr : Int) 8 = (m : Int) := by omega
     have mb : (if (8 : Int) < (nr : Int) then (8 : Int) else (nr : Int)) = (m : Int) := by split <;> omega
     have mz : (0 : Int) ≤ (m : Int) := by omega
     have mc : (m : Int) ≤ (cr : Int) := by have := hRd.1; omega
     have md : cr ≤ 9223372036854775807 := hRd.2
     have m8 : m ≤ 8 := by omega
     have HML := Lib.hid (ic_take_len (k := 8) hnl hm)
     have HMR := Lib.hid fun (W : World) (bW : Below wr.heap.size wr W) => (show 0 < m → ∃ b o, R = some ⟨b, o, none⟩ ∧ ∀ j u, (ic (row.take 8))[j]? = some u → W.cell? ⟨b, o + j, none⟩ = some u from by
      have h1 := (hR.call bW).take m (by rw [hm]; exact Nat.min_le_left _ _)
      have h2 := rd_news (show Rd W (lo W.heap.size) R m (row.take m) from h1)
      rw [take_min row hnl, ← hm]
      exact h2)
     have iz : (0 : Int) ≤ (i : Int) := by omega
     have inn : (i : Int) < (v.fn : Int) := by omega
     rw [hfa] at y1
     have yA := box_cells kA 1 rfl
     have HTK := Lib.hid (show (a.fore.take (i + 1)).map (·.take 8) = (a.fore.take i).map (·.take 8) ++ [row.take 8] by rw [List.take_add_one, hrow]; simp)
     have t8 : (i : Int) < 8 := by omega
     have KXX := Lib.hid kx
     clear hcc hcc2 hrow hnl hm hR hRd hR0 hfa hfw
     go_upto_region 5 with fail
     have HS := Lib.hid fun (W : World) (bW : Below wr.heap.size wr W) => (show W.cell? ⟨gx, 1, none⟩ = some (.slice (some ⟨bf, of', none⟩) v.fn v.fc) ∧ W.cell? ⟨bf, of' + i, none⟩ = some (.slice R nr cr) from ⟨cell_call y1 bW, cell_call x0 bW⟩)
     have bb := Below.refl wr.heap.size wr
     refine wp_region_held_drew (S := fun w' => w'.cell? ⟨gx, 1, none⟩ = some (.slice (some ⟨bf, of', none⟩) v.fn v.fc) ∧ w'.cell? ⟨bf, of' + i, none⟩ = some (.slice R nr cr)) (by kernel_rfl) ?_ (fun hHeld => ?_)
     ·exact HS.out _ (below_drewN bb 1)
     replace bb := below_drewN bb 1
     change Below _ _ wr.drew at bb
     generalize hw0 : wr.drew = W0 at hHeld bb ⊢
     clear hw0
     refine tkB 0 (v := ?_) (by assumption) ?_ ?_
     rotate_left 1
     ·intro w hSw; (try dsimp only at hSw); go_simp; try with_reducible rfl
     refine tkB 3 (v := ?_) (by assumption) ?_ ?_
     rotate_left 1
     ·intro w hSw; (try dsimp only at hSw); go_simp; try with_reducible rfl
     refine tkB 4 (v := ?_) (by assumption) ?_ ?_
     rotate_left 1
     ·intro w hSw; (try dsimp only at hSw); go_simp; try with_reducible rfl
     refine tkB 5 (v := ?_) (by assumption) ?_ ?_
     rotate_left 1
     ·intro w hSw; (try dsimp only at hSw); go_simp; try with_reducible rfl
     refine tkB 6 (v := ?_) (by assumption) ?_ ?_
     rotate_left 1
     ·intro w hSw; (try dsimp only at hSw); go_simp; try with_reducible rfl
     refine tkB 7 (v := ?_) (by assumption) ?_ ?_
     rotate_left 1
     ·intro w hSw; (try dsimp only at hSw); go_simp; try with_reducible rfl
     refine tkB 8 (v := ?_) (by assumption) ?_ ?_
     rotate_left 1
     ·intro w hSw; (try dsimp only at hSw); go_simp; try with_reducible rfl
     refine tkB 9 (v := ?_) (by assumption) ?_ ?_
     rotate_left 1
     ·intro w hSw; (try dsimp only at hSw); go_simp; try with_reducible rfl
     refine tkB 10 (v := ?_) (by assumption) ?_ ?_
     rotate_left 1
     ·intro w hSw; (try dsimp only at hSw); go_simp; try with_reducible rfl
     refine tkB 11 (v := ?_) (by assumption) ?_ ?_
     rotate_left 1
     ·intro w hSw; (try dsimp only at hSw); go_simp; try with_reducible rfl
     refine tkB 12 (v := ?_) (by assumption) ?_ ?_
     rotate_left 1
     ·intro w hSw; (try dsimp only at hSw); go_simp; try with_reducible rfl
     refine tkB 13 (v := ?_) (by assumption) ?_ ?_
     rotate_left 1
     ·intro w hSw; (try dsimp only at hSw); go_simp; try with_reducible rfl
     refine tkB 14 (v := ?_) (by assumption) ?_ ?_
     rotate_left 1
     ·intro w hSw; (try dsimp only at hSw); go_simp; try with_reducible rfl
     refine tkB 15 (v := ?_) (by assumption) ?_ ?_
     rotate_left 1
     ·intro w hSw; (try dsimp only at hSw); go_simp; try with_reducible rfl
     refine wpAnyH_ready (rs := [1, 2]) (by kernel_rfl) (by simp) ?_
     refine AllReadyH.cons (by simp only [List.getElem?_toArray]; rfl) (fun K hK => ?_) (AllReadyH.cons (by simp only [List.getElem?_toArray]; rfl) (fun K hK => ?_) AllReadyH.nil)
     ·have yL := cell_call yA bb
      refine wanted_pos (by kernel_rfl) ?_
      go_simp
      clear hHeld
      refine hK.out _ _ ?_ (fun hHeld => ?_)
      ·exact HS.out _ bb
      clear hK K
      try conv => arg 8; simp only [Act.put, List.setIfInBounds_toArray, List.set_cons_zero, List.set_cons_succ]
      clear yL
      refine wpAnyH_ready (rs := [2]) (by kernel_rfl) (by simp) ?_
      refine AllReadyH.cons (by simp only [List.getElem?_toArray]; rfl) (fun K hK => ?_) AllReadyH.nil
      refine wanted_pos (by kernel_rfl) ?_
      go_simp
      clear hHeld
      refine hK.out _ _ ?_ (fun hHeld => ?_)
      ·exact HS.out _ (below_lit _ _ bb _)
      clear hK K
      try conv => arg 8; simp only [Act.put, List.setIfInBounds_toArray, List.set_cons_zero, List.set_cons_succ]
      have er := Ow.empty 3 1 W0 wr.heap.size bb.size
      replace bb := below_lit _ _ bb (.cells #[] 3)
      generalize W0.alloc (.cells #[] 3) = W1 at *
      refine wpAnyH_ready (rs := [16]) (by kernel_rfl) (by simp) ?_
      refine AllReadyH.cons (by simp only [List.getElem?_toArray]; rfl) (fun K hK => ?_) AllReadyH.nil
      clear hHeld
      refine appStep elt_int (by kernel_rfl) _ _ rfl W1 wr.heap.size _ _ _ [] _ _ _ (ic (row.take 8)) (by rfl) (by rfl) er HML.out (HMR.out _ bb) (ic_one _) (by omega) bb.size ?_
      intro Ar cr2 W2 fr hg hb hat
      rw [List.nil_append, Nat.zero_add] at fr
      rw [Nat.zero_add]
      refine hK.out _ _ ?_ (fun hHeld => ?_)
      ·exact HS.out _ (bb.trans hb)
      clear hK K
      try conv => arg 8; simp only [Act.put, List.setIfInBounds_toArray, List.set_cons_zero, List.set_cons_succ]
      replace bb := bb.trans hb
      clear er hg hb hat
      refine wpAnyH_ready (rs := [17]) (by kernel_rfl) (by simp) ?_
      refine AllReadyH.cons (by simp only [List.getElem?_toArray]; rfl) (fun K hK => ?_) AllReadyH.nil
      refine wanted_pos (by kernel_rfl) ?_
      go_simp
      clear hHeld
      refine hK.out _ _ ?_ (fun hHeld => ?_)
      ·exact HS.out _ (below_lit _ _ bb _)
      clear hK K
      try conv => arg 8; simp only [Act.put, List.setIfInBounds_toArray, List.set_cons_zero, List.set_cons_succ]
      have how := (HFW.out.ow.call bb).alloc (.cells #[.slice Ar m cr2] 23)
      have hnw := news_new W2 [.slice Ar m cr2] 23
      have hs2 : w2.heap.size ≤ (W2.alloc (.cells #[.slice Ar m cr2] 23)).heap.size := by rw [World.size_alloc]; have := bb.size; omega
      have bb3 := below_lit _ _ bb (.cells #[.slice Ar m cr2] 23)
      refine wpAnyH_ready (rs := [18]) (by kernel_rfl) (by simp) ?_
      refine AllReadyH.cons (by simp only [List.getElem?_toArray]; rfl) (fun K hK => ?_) AllReadyH.nil
      clear hHeld
      refine appStep elt_row (by kernel_rfl) _ _ rfl (W2.alloc (.cells #[.slice Ar m cr2] 23)) w2.heap.size _ _ _ css.flatten _ 1 1 [.slice Ar m cr2] (by rfl) (by rfl) how rfl hnw (by simp [Value.oneCell']) (by omega) hs2 ?_
      intro A' c' W4 ho4 hg4 hb4 hat4
      have hgAl : gA < wr.heap.size := kA.lt
      obtain ⟨q1, q2, q3, q4⟩ := HFW.out.push hBw hgB hgAl hAg bb fr ho4 hg4 hb4 hat4 (i := 1) (.slice A' (i + 1) c')
      have nA : ∀ b, b < w2.heap.size → A.map (·.block) ≠ some b := fun b h1 h2 => by have := (HFW.out.ow.blk b h2).1; omega
      have kA4 : Bk W4 gA 38 #[.slice A1 m1 c1, .slice A i c, .slice none 0 0, .slice A2 m2 c2, .slice A3 m3 c3] := (q3 gA hgAl hAg).trans kA
      have yA4 := box_cells kA4 1 rfl
      have fA4 := kA4.frozen 1
      refine hK.out _ _ ?_ (fun hHeld => ?_)
      ·exact ⟨(World.cell?_of_block (a := ⟨gx, 1, none⟩) (q3 gx kx.lt (nA gx hg1))).trans y1, (World.cell?_of_block (a := ⟨bf, of' + i, none⟩) (q3 bf (by omega) (nA bf (by omega)))).trans x0⟩
      clear hK K
      try conv => arg 8; simp only [Act.put, List.setIfInBounds_toArray, List.set_cons_zero, List.set_cons_succ]
      refine tkB 19 (v := ?_) (by assumption) ?_ ?_
      rotate_left 1
      ·intro w hSw; (try dsimp only at hSw); go_simp; try with_reducible rfl
      refine wpAnyH_ready (rs := [20]) (by kernel_rfl) (by simp) ?_
      refine AllReadyH.cons (by simp only [List.getElem?_toArray]; rfl) (fun K hK => ?_) AllReadyH.nil
      refine wanted_pos (by kernel_rfl) ?_
      go_simp
      clear hHeld
      refine hK.out _ _ ?_ (fun hHeld => ?_)
      ·exact ⟨(World.cell?_of_block (a := ⟨gx, 1, none⟩) (q2 gx kx.lt (nA gx hg1) (by omega))).trans y1, (World.cell?_of_block (a := ⟨bf, of' + i, none⟩) (q2 bf (by omega) (nA bf (by omega)) (by omega))).trans x0⟩
      clear hK K
      try conv => arg 8; simp only [Act.put, List.setIfInBounds_toArray, List.set_cons_zero, List.set_cons_succ]
      refine wpAnyH_done (by kernel_rfl) ?_ _
      go_wp2_with fail
      have kx5 : Bk (W4.setCell ⟨gA, 1, none⟩ (.slice A' (i + 1) c')) gx 38 #[.slice v.ca v.cn v.cc, .slice v.fa v.fn v.fc, .slice v.ba v.bn v.bc, .slice v.ea v.en v.ec, .slice v.ga v.gn v.gc] := (q2 gx kx.lt (nA gx hg1) (by omega)).trans kx
      have kt5 : Bk (W4.setCell ⟨gA, 1, none⟩ (.slice A' (i + 1) c')) gt 38 #[.slice none 0 0, .slice none 0 0, .slice none 0 0, .slice none 0 0, .slice none 0 0] := (q2 gt kt.lt (nA gt hg2) (by omega)).trans kt
      have kA5 := kA4.set_ 1 (.slice A' (i + 1) c')
      have kD : Kept D wr (W4.setCell ⟨gA, 1, none⟩ (.slice A' (i + 1) c')) := fun b hd => q2 b (HFW.out.dl b hd).1 (HFW.out.dl b hd).2.1 (HFW.out.dl b hd).2.2
      go_wp2
      go_roundw
      case rel => exact ⟨i + 1, A', c', _, (fun b => D b ∨ Ar.map (·.block) = some b), by omega, by omega, by go_num, kx5, kt5, kA5, by rw [HTK.out]; exact q1, hr1.mono (fun b hb => .inl hb) kD, hr2.mono (fun b hb => .inl hb) kD, hr3.mono (fun b hb => .inl hb) kD, (fun b hb => hb.elim (fun h => hDB b h) (fun h => by have := (fr.blk b h).1; omega)), (fun e => q4 gA e rfl)⟩
      case measure => simp [intOf]; omega

     ·refine wanted_pos (by kernel_rfl) ?_
      go_simp
      clear hHeld
      refine hK.out _ _ ?_ (fun hHeld => ?_)
      ·exact HS.out _ (below_lit _ _ bb _)
      clear hK K
      try conv => arg 8; simp only [Act.put, List.setIfInBounds_toArray, List.set_cons_zero, List.set_cons_succ]
      have er := Ow.empty 3 1 W0 wr.heap.size bb.size
      replace bb := below_lit _ _ bb (.cells #[] 3)
      generalize W0.alloc (.cells #[] 3) = W1 at *
      refine wpAnyH_ready (rs := [1, 16]) (by kernel_rfl) (by simp) ?_
      refine AllReadyH.cons (by simp only [List.getElem?_toArray]; rfl) (fun K hK => ?_) (AllReadyH.cons (by simp only [List.getElem?_toArray]; rfl) (fun K hK => ?_) AllReadyH.nil)
      ·have yL := cell_call yA bb
       refine wanted_pos (by kernel_rfl) ?_
       go_simp
       clear hHeld
       refine hK.out _ _ ?_ (fun hHeld => ?_)
       ·exact HS.out _ bb
       clear hK K
       try conv => arg 8; simp only [Act.put, List.setIfInBounds_toArray, List.set_cons_zero, List.set_cons_succ]
       clear yL
       refine wpAnyH_ready (rs := [16]) (by kernel_rfl) (by simp) ?_
       refine AllReadyH.cons (by simp only [List.getElem?_toArray]; rfl) (fun K hK => ?_) AllReadyH.nil
       clear hHeld
       refine appStep elt_int (by kernel_rfl) _ _ rfl W1 wr.heap.size _ _ _ [] _ _ _ (ic (row.take 8)) (by rfl) (by rfl) er HML.out (HMR.out _ bb) (ic_one _) (by omega) bb.size ?_
       intro Ar cr2 W2 fr hg hb hat
       rw [List.nil_append, Nat.zero_add] at fr
       rw [Nat.zero_add]
       refine hK.out _ _ ?_ (fun hHeld => ?_)
       ·exact HS.out _ (bb.trans hb)
       clear hK K
       try conv => arg 8; simp only [Act.put, List.setIfInBounds_toArray, List.set_cons_zero, List.set_cons_succ]
       replace bb := bb.trans hb
       clear er hg hb hat
       refine wpAnyH_ready (rs := [17]) (by kernel_rfl) (by simp) ?_
       refine AllReadyH.cons (by simp only [List.getElem?_toArray]; rfl) (fun K hK => ?_) AllReadyH.nil
       refine wanted_pos (by kernel_rfl) ?_
       go_simp
       clear hHeld
       refine hK.out _ _ ?_ (fun hHeld => ?_)
       ·exact HS.out _ (below_lit _ _ bb _)
       clear hK K
       try conv => arg 8; simp only [Act.put, List.setIfInBounds_toArray, List.set_cons_zero, List.set_cons_succ]
       have how := (HFW.out.ow.call bb).alloc (.cells #[.slice Ar m cr2] 23)
       have hnw := news_new W2 [.slice Ar m cr2] 23
       have hs2 : w2.heap.size ≤ (W2.alloc (.cells #[.slice Ar m cr2] 23)).heap.size := by rw [World.size_alloc]; have := bb.size; omega
       have bb3 := below_lit _ _ bb (.cells #[.slice Ar m cr2] 23)
       refine wpAnyH_ready (rs := [18]) (by kernel_rfl) (by simp) ?_
       refine AllReadyH.cons (by simp only [List.getElem?_toArray]; rfl) (fun K hK => ?_) AllReadyH.nil
       clear hHeld
       refine appStep elt_row (by kernel_rfl) _ _ rfl (W2.alloc (.cells #[.slice Ar m cr2] 23)) w2.heap.size _ _ _ css.flatten _ 1 1 [.slice Ar m cr2] (by rfl) (by rfl) how rfl hnw (by simp [Value.oneCell']) (by omega) hs2 ?_
       intro A' c' W4 ho4 hg4 hb4 hat4
       have hgAl : gA < wr.heap.size := kA.lt
       obtain ⟨q1, q2, q3, q4⟩ := HFW.out.push hBw hgB hgAl hAg bb fr ho4 hg4 hb4 hat4 (i := 1) (.slice A' (i + 1) c')
       have nA : ∀ b, b < w2.heap.size → A.map (·.block) ≠ some b := fun b h1 h2 => by have := (HFW.out.ow.blk b h2).1; omega
       have kA4 : Bk W4 gA 38 #[.slice A1 m1 c1, .slice A i c, .slice none 0 0, .slice A2 m2 c2, .slice A3 m3 c3] := (q3 gA hgAl hAg).trans kA
       have yA4 := box_cells kA4 1 rfl
       have fA4 := kA4.frozen 1
       refine hK.out _ _ ?_ (fun hHeld => ?_)
       ·exact ⟨(World.cell?_of_block (a := ⟨gx, 1, none⟩) (q3 gx kx.lt (nA gx hg1))).trans y1, (World.cell?_of_block (a := ⟨bf, of' + i, none⟩) (q3 bf (by omega) (nA bf (by omega)))).trans x0⟩
       clear hK K
       try conv => arg 8; simp only [Act.put, List.setIfInBounds_toArray, List.set_cons_zero, List.set_cons_succ]
       refine tkB 19 (v := ?_) (by assumption) ?_ ?_
       rotate_left 1
       ·intro w hSw; (try dsimp only at hSw); go_simp; try with_reducible rfl
       refine wpAnyH_ready (rs := [20]) (by kernel_rfl) (by simp) ?_
       refine AllReadyH.cons (by simp only [List.getElem?_toArray]; rfl) (fun K hK => ?_) AllReadyH.nil
       refine wanted_pos (by kernel_rfl) ?_
       go_simp
       clear hHeld
       refine hK.out _ _ ?_ (fun hHeld => ?_)
       ·exact ⟨(World.cell?_of_block (a := ⟨gx, 1, none⟩) (q2 gx kx.lt (nA gx hg1) (by omega))).trans y1, (World.cell?_of_block (a := ⟨bf, of' + i, none⟩) (q2 bf (by omega) (nA bf (by omega)) (by omega))).trans x0⟩
       clear hK K
       try conv => arg 8; simp only [Act.put, List.setIfInBounds_toArray, List.set_cons_zero, List.set_cons_succ]
       refine wpAnyH_done (by kernel_rfl) ?_ _
       go_wp2_with fail
       have kx5 : Bk (W4.setCell ⟨gA, 1, none⟩ (.slice A' (i + 1) c')) gx 38 #[.slice v.ca v.cn v.cc, .slice v.fa v.fn v.fc, .slice v.ba v.bn v.bc, .slice v.ea v.en v.ec, .slice v.ga v.gn v.gc] := (q2 gx kx.lt (nA gx hg1) (by omega)).trans kx
       have kt5 : Bk (W4.setCell ⟨gA, 1, none⟩ (.slice A' (i + 1) c')) gt 38 #[.slice none 0 0, .slice none 0 0, .slice none 0 0, .slice none 0 0, .slice none 0 0] := (q2 gt kt.lt (nA gt hg2) (by omega)).trans kt
       have kA5 := kA4.set_ 1 (.slice A' (i + 1) c')
       have kD : Kept D wr (W4.setCell ⟨gA, 1, none⟩ (.slice A' (i + 1) c')) := fun b hd => q2 b (HFW.out.dl b hd).1 (HFW.out.dl b hd).2.1 (HFW.out.dl b hd).2.2
       go_wp2
       go_roundw
       case rel => exact ⟨i + 1, A', c', _, (fun b => D b ∨ Ar.map (·.block) = some b), by omega, by omega, by go_num, kx5, kt5, kA5, by rw [HTK.out]; exact q1, hr1.mono (fun b hb => .inl hb) kD, hr2.mono (fun b hb => .inl hb) kD, hr3.mono (fun b hb => .inl hb) kD, (fun b hb => hb.elim (fun h => hDB b h) (fun h => by have := (fr.blk b h).1; omega)), (fun e => q4 gA e rfl)⟩
       case measure => simp [intOf]; omega

      ·clear hHeld
       refine appStep elt_int (by kernel_rfl) _ _ rfl W1 wr.heap.size _ _ _ [] _ _ _ (ic (row.take 8)) (by rfl) (by rfl) er HML.out (HMR.out _ bb) (ic_one _) (by omega) bb.size ?_
       intro Ar cr2 W2 fr hg hb hat
       rw [List.nil_append, Nat.zero_add] at fr
       rw [Nat.zero_add]
       refine hK.out _ _ ?_ (fun hHeld => ?_)
       ·exact HS.out _ (bb.trans hb)
       clear hK K
       try conv => arg 8; simp only [Act.put, List.setIfInBounds_toArray, List.set_cons_zero, List.set_cons_succ]
       replace bb := bb.trans hb
       clear er hg hb hat
       refine wpAnyH_ready (rs := [1, 17]) (by kernel_rfl) (by simp) ?_
       refine AllReadyH.cons (by simp only [List.getElem?_toArray]; rfl) (fun K hK => ?_) (AllReadyH.cons (by simp only [List.getElem?_toArray]; rfl) (fun K hK => ?_) AllReadyH.nil)
       ·have yL := cell_call yA bb
        refine wanted_pos (by kernel_rfl) ?_
        go_simp
        clear hHeld
        refine hK.out _ _ ?_ (fun hHeld => ?_)
        ·exact HS.out _ bb
        clear hK K
        try conv => arg 8; simp only [Act.put, List.setIfInBounds_toArray, List.set_cons_zero, List.set_cons_succ]
        clear yL
        refine wpAnyH_ready (rs := [17]) (by kernel_rfl) (by simp) ?_
        refine AllReadyH.cons (by simp only [List.getElem?_toArray]; rfl) (fun K hK => ?_) AllReadyH.nil
        refine wanted_pos (by kernel_rfl) ?_
        go_simp
        clear hHeld
        refine hK.out _ _ ?_ (fun hHeld => ?_)
        ·exact HS.out _ (below_lit _ _ bb _)
        clear hK K
        try conv => arg 8; simp only [Act.put, List.setIfInBounds_toArray, List.set_cons_zero, List.set_cons_succ]
        have how := (HFW.out.ow.call bb).alloc (.cells #[.slice Ar m cr2] 23)
        have hnw := news_new W2 [.slice Ar m cr2] 23
        have hs2 : w2.heap.size ≤ (W2.alloc (.cells #[.slice Ar m cr2] 23)).heap.size := by rw [World.size_alloc]; have := bb.size; omega
        have bb3 := below_lit _ _ bb (.cells #[.slice Ar m cr2] 23)
        refine wpAnyH_ready (rs := [18]) (by kernel_rfl) (by simp) ?_
        refine AllReadyH.cons (by simp only [List.getElem?_toArray]; rfl) (fun K hK => ?_) AllReadyH.nil
        clear hHeld
        refine appStep elt_row (by kernel_rfl) _ _ rfl (W2.alloc (.cells #[.slice Ar m cr2] 23)) w2.heap.size _ _ _ css.flatten _ 1 1 [.slice Ar m cr2] (by rfl) (by rfl) how rfl hnw (by simp [Value.oneCell']) (by omega) hs2 ?_
        intro A' c' W4 ho4 hg4 hb4 hat4
        have hgAl : gA < wr.heap.size := kA.lt
        obtain ⟨q1, q2, q3, q4⟩ := HFW.out.push hBw hgB hgAl hAg bb fr ho4 hg4 hb4 hat4 (i := 1) (.slice A' (i + 1) c')
        have nA : ∀ b, b < w2.heap.size → A.map (·.block) ≠ some b := fun b h1 h2 => by have := (HFW.out.ow.blk b h2).1; omega
        have kA4 : Bk W4 gA 38 #[.slice A1 m1 c1, .slice A i c, .slice none 0 0, .slice A2 m2 c2, .slice A3 m3 c3] := (q3 gA hgAl hAg).trans kA
        have yA4 := box_cells kA4 1 rfl
        have fA4 := kA4.frozen 1
        refine hK.out _ _ ?_ (fun hHeld => ?_)
        ·exact ⟨(World.cell?_of_block (a := ⟨gx, 1, none⟩) (q3 gx kx.lt (nA gx hg1))).trans y1, (World.cell?_of_block (a := ⟨bf, of' + i, none⟩) (q3 bf (by omega) (nA bf (by omega)))).trans x0⟩
        clear hK K
        try conv => arg 8; simp only [Act.put, List.setIfInBounds_toArray, List.set_cons_zero, List.set_cons_succ]
        refine tkB 19 (v := ?_) (by assumption) ?_ ?_
        rotate_left 1
        ·intro w hSw; (try dsimp only at hSw); go_simp; try with_reducible rfl
        refine wpAnyH_ready (rs := [20]) (by kernel_rfl) (by simp) ?_
        refine AllReadyH.cons (by simp only [List.getElem?_toArray]; rfl) (fun K hK => ?_) AllReadyH.nil
        refine wanted_pos (by kernel_rfl) ?_
        go_simp
        clear hHeld
        refine hK.out _ _ ?_ (fun hHeld => ?_)
        ·exact ⟨(World.cell?_of_block (a := ⟨gx, 1, none⟩) (q2 gx kx.lt (nA gx hg1) (by omega))).trans y1, (World.cell?_of_block (a := ⟨bf, of' + i, none⟩) (q2 bf (by omega) (nA bf (by omega)) (by omega))).trans x0⟩
        clear hK K
        try conv => arg 8; simp only [Act.put, List.setIfInBounds_toArray, List.set_cons_zero, List.set_cons_succ]
        refine wpAnyH_done (by kernel_rfl) ?_ _
        go_wp2_with fail
        have kx5 : Bk (W4.setCell ⟨gA, 1, none⟩ (.slice A' (i + 1) c')) gx 38 #[.slice v.ca v.cn v.cc, .slice v.fa v.fn v.fc, .slice v.ba v.bn v.bc, .slice v.ea v.en v.ec, .slice v.ga v.gn v.gc] := (q2 gx kx.lt (nA gx hg1) (by omega)).trans kx
        have kt5 : Bk (W4.setCell ⟨gA, 1, none⟩ (.slice A' (i + 1) c')) gt 38 #[.slice none 0 0, .slice none 0 0, .slice none 0 0, .slice none 0 0, .slice none 0 0] := (q2 gt kt.lt (nA gt hg2) (by omega)).trans kt
        have kA5 := kA4.set_ 1 (.slice A' (i + 1) c')
        have kD : Kept D wr (W4.setCell ⟨gA, 1, none⟩ (.slice A' (i + 1) c')) := fun b hd => q2 b (HFW.out.dl b hd).1 (HFW.out.dl b hd).2.1 (HFW.out.dl b hd).2.2
        go_wp2
        go_roundw
        case rel => exact ⟨i + 1, A', c', _, (fun b => D b ∨ Ar.map (·.block) = some b), by omega, by omega, by go_num, kx5, kt5, kA5, by rw [HTK.out]; exact q1, hr1.mono (fun b hb => .inl hb) kD, hr2.mono (fun b hb => .inl hb) kD, hr3.mono (fun b hb => .inl hb) kD, (fun b hb => hb.elim (fun h => hDB b h) (fun h => by have := (fr.blk b h).1; omega)), (fun e => q4 gA e rfl)⟩
        case measure => simp [intOf]; omega

       ·refine wanted_pos (by kernel_rfl) ?_
        go_simp
        clear hHeld
        refine hK.out _ _ ?_ (fun hHeld => ?_)
        ·exact HS.out _ (below_lit _ _ bb _)
        clear hK K
        try conv => arg 8; simp only [Act.put, List.setIfInBounds_toArray, List.set_cons_zero, List.set_cons_succ]
        have how := (HFW.out.ow.call bb).alloc (.cells #[.slice Ar m cr2] 23)
        have hnw := news_new W2 [.slice Ar m cr2] 23
        have hs2 : w2.heap.size ≤ (W2.alloc (.cells #[.slice Ar m cr2] 23)).heap.size := by rw [World.size_alloc]; have := bb.size; omega
        have bb3 := below_lit _ _ bb (.cells #[.slice Ar m cr2] 23)
        refine wpAnyH_ready (rs := [1]) (by kernel_rfl) (by simp) ?_
        refine AllReadyH.cons (by simp only [List.getElem?_toArray]; rfl) (fun K hK => ?_) AllReadyH.nil
        have yL := cell_call yA bb3
        refine wanted_pos (by kernel_rfl) ?_
        go_simp
        clear hHeld
        refine hK.out _ _ ?_ (fun hHeld => ?_)
        ·exact HS.out _ bb3
        clear hK K
        try conv => arg 8; simp only [Act.put, List.setIfInBounds_toArray, List.set_cons_zero, List.set_cons_succ]
        clear yL
        refine wpAnyH_ready (rs := [18]) (by kernel_rfl) (by simp) ?_
        refine AllReadyH.cons (by simp only [List.getElem?_toArray]; rfl) (fun K hK => ?_) AllReadyH.nil
        clear hHeld
        refine appStep elt_row (by kernel_rfl) _ _ rfl (W2.alloc (.cells #[.slice Ar m cr2] 23)) w2.heap.size _ _ _ css.flatten _ 1 1 [.slice Ar m cr2] (by rfl) (by rfl) how rfl hnw (by simp [Value.oneCell']) (by omega) hs2 ?_
        intro A' c' W4 ho4 hg4 hb4 hat4
        have hgAl : gA < wr.heap.size := kA.lt
        obtain ⟨q1, q2, q3, q4⟩ := HFW.out.push hBw hgB hgAl hAg bb fr ho4 hg4 hb4 hat4 (i := 1) (.slice A' (i + 1) c')
        have nA : ∀ b, b < w2.heap.size → A.map (·.block) ≠ some b := fun b h1 h2 => by have := (HFW.out.ow.blk b h2).1; omega
        have kA4 : Bk W4 gA 38 #[.slice A1 m1 c1, .slice A i c, .slice none 0 0, .slice A2 m2 c2, .slice A3 m3 c3] := (q3 gA hgAl hAg).trans kA
        have yA4 := box_cells kA4 1 rfl
        have fA4 := kA4.frozen 1
        refine hK.out _ _ ?_ (fun hHeld => ?_)
        ·exact ⟨(World.cell?_of_block (a := ⟨gx, 1, none⟩) (q3 gx kx.lt (nA gx hg1))).trans y1, (World.cell?_of_block (a := ⟨bf, of' + i, none⟩) (q3 bf (by omega) (nA bf (by omega)))).trans x0⟩
        clear hK K
        try conv => arg 8; simp only [Act.put, List.setIfInBounds_toArray, List.set_cons_zero, List.set_cons_succ]
        refine tkB 19 (v := ?_) (by assumption) ?_ ?_
        rotate_left 1
        ·intro w hSw; (try dsimp only at hSw); go_simp; try with_reducible rfl
        refine wpAnyH_ready (rs := [20]) (by kernel_rfl) (by simp) ?_
        refine AllReadyH.cons (by simp only [List.getElem?_toArray]; rfl) (fun K hK => ?_) AllReadyH.nil
        refine wanted_pos (by kernel_rfl) ?_
        go_simp
        clear hHeld
        refine hK.out _ _ ?_ (fun hHeld => ?_)
        ·exact ⟨(World.cell?_of_block (a := ⟨gx, 1, none⟩) (q2 gx kx.lt (nA gx hg1) (by omega))).trans y1, (World.cell?_of_block (a := ⟨bf, of' + i, none⟩) (q2 bf (by omega) (nA bf (by omega)) (by omega))).trans x0⟩
        clear hK K
        try conv => arg 8; simp only [Act.put, List.setIfInBounds_toArray, List.set_cons_zero, List.set_cons_succ]
        refine wpAnyH_done (by kernel_rfl) ?_ _
        go_wp2_with fail
        have kx5 : Bk (W4.setCell ⟨gA, 1, none⟩ (.slice A' (i + 1) c')) gx 38 #[.slice v.ca v.cn v.cc, .slice v.fa v.fn v.fc, .slice v.ba v.bn v.bc, .slice v.ea v.en v.ec, .slice v.ga v.gn v.gc] := (q2 gx kx.lt (nA gx hg1) (by omega)).trans kx
        have kt5 : Bk (W4.setCell ⟨gA, 1, none⟩ (.slice A' (i + 1) c')) gt 38 #[.slice none 0 0, .slice none 0 0, .slice none 0 0, .slice none 0 0, .slice none 0 0] := (q2 gt kt.lt (nA gt hg2) (by omega)).trans kt
        have kA5 := kA4.set_ 1 (.slice A' (i + 1) c')
        have kD : Kept D wr (W4.setCell ⟨gA, 1, none⟩ (.slice A' (i + 1) c')) := fun b hd => q2 b (HFW.out.dl b hd).1 (HFW.out.dl b hd).2.1 (HFW.out.dl b hd).2.2
        go_wp2
        go_roundw
        case rel => exact ⟨i + 1, A', c', _, (fun b => D b ∨ Ar.map (·.block) = some b), by omega, by omega, by go_num, kx5, kt5, kA5, by rw [HTK.out]; exact q1, hr1.mono (fun b hb => .inl hb) kD, hr2.mono (fun b hb => .inl hb) kD, hr3.mono (fun b hb => .inl hb) kD, (fun b hb => hb.elim (fun h => hDB b h) (fun h => by have := (fr.blk b h).1; omega)), (fun e => q4 gA e rfl)⟩
        case measure => simp [intOf]; omega

    ·have t8 : ¬ (i : Int) < 8 := by omega
     have inn : (i : Int) < (v.fn : Int) := by omega
     have htk : a.fore.take i = a.fore.take 8 := by rw [show i = 8 by omega]
     rw [htk] at hfw
     have hrF := hfw.rd2
     have HdF := Lib.hid hfw.ow.hd
     have hDL : ∀ b, (D b ∨ A.map (·.block) = some b) → b < wr.heap.size ∧ (none : Option Addr).map (·.block) ≠ some b ∧ b ≠ gA := fun b hb => by
      rcases hb with hb | hb
      ·exact ⟨(hfw.dl b hb).1, by simp, (hfw.dl b hb).2.2⟩
      ·exact ⟨(hfw.ow.blk b hb).2.1, by simp, fun e => hAg (by rw [hb, e])⟩
     have hDB2 : ∀ b, (D b ∨ A.map (·.block) = some b) → w2.heap.size ≤ b := fun b hb => by
      rcases hb with hb | hb
      ·exact hDB b hb
      ·exact (hfw.ow.blk b hb).1
     have hDP2 : ∀ b, (D b ∨ A.map (·.block) = some b) → Plain wr b := fun b hb => by
      rcases hb with hb | hb
      ·exact hfw.pl b hb
      ·exact hfw.ow.plain hb
     have hbl := hfw.bl
     replace hr1 : Rd wr (fun b => D b ∨ A.map (·.block) = some b) A1 m1 (a.cls.take 12) := hr1.mono (fun b h => .inl h) (Kept.refl _ _)
     replace hr2 : RdU wr (fun b => D b ∨ A.map (·.block) = some b) A2 m2 (a.fe.take 9) := hr2.mono (fun b h => .inl h) (Kept.refl _ _)
     replace hr3 : RdU wr (fun b => D b ∨ A.map (·.block) = some b) A3 m3 (a.be.take 9) := hr3.mono (fun b h => .inl h) (Kept.refl _ _)
     obtain ⟨D0, hD0⟩ : ∃ D0 : Nat → Prop, D0 = (fun b => D b ∨ A.map (·.block) = some b) := ⟨_, rfl⟩
     have hDL' : ∀ b, D0 b → b < wr.heap.size ∧ (none : Option Addr).map (·.block) ≠ some b ∧ b ≠ gA := by rw [hD0]; exact hDL
     have hDB' : ∀ b, D0 b → w2.heap.size ≤ b := by rw [hD0]; exact hDB2
     have hDP' : ∀ b, D0 b → Plain wr b := by rw [hD0]; exact hDP2
     rw [← hD0] at hr1 hr2 hr3 hrF
     clear hD0 hDL hDB2 hDP2 HFW hfw hDB hAg htk hBw
     obtain ⟨nF, hnF⟩ : ∃ k, k = i := ⟨_, rfl⟩
     subst hnF
     obtain ⟨AF, hAF⟩ : ∃ k, k = A := ⟨_, rfl⟩
     subst hAF
     obtain ⟨cF, hcF⟩ : ∃ k, k = c := ⟨_, rfl⟩
     subst hcF
     go_wp2
     go_loopw [5] (fun iv wr => ∃ (i : Nat) (A : Option Addr) (c : Nat) (css : List (List Value)) (D : Nat → Prop), i ≤ 8 ∧ i ≤ v.bn ∧ iv = .int .i64 i ∧ Bk wr gx 38 #[.slice v.ca v.cn v.cc, .slice v.fa v.fn v.fc, .slice v.ba v.bn v.bc, .slice v.ea v.en v.ec, .slice v.ga v.gn v.gc] ∧ Bk wr gt 38 #[.slice none 0 0, .slice none 0 0, .slice none 0 0, .slice none 0 0, .slice none 0 0] ∧ Bk wr gA 38 #[.slice A1 m1 c1, .slice AF nF cF, .slice A i c, .slice A2 m2 c2, .slice A3 m3 c3] ∧ FwL w2 wr w2.heap.size gA D A i c css ((a.back.take i).map (·.take 8)) ∧ Rd wr D A1 m1 (a.cls.take 12) ∧ RdU wr D A2 m2 (a.fe.take 9) ∧ RdU wr D A3 m3 (a.be.take 9) ∧ (∀ b, D b → w2.heap.size ≤ b) ∧ (A.map (·.block) ≠ some gA) ∧ RdV wr D AF nF ((a.fore.take 8).map (·.take 8))) (fun iv _ => v.bn - (intOf iv).toNat)
     case atStart => exact ⟨0, none, 0, [], D0, by omega, by omega, rfl, kx, kt, kA, ⟨Ow.nil _ _ _ _, RowOf.nil, hDL', hbl, hDP'⟩, hr1, hr2, hr3, hDB', by simp, hrF⟩
     case round =>
      obtain ⟨i, A, c, css, D, hi8, hin, rfl, kx, kt, kA, hfw, hr1, hr2, hr3, hDB, hAg, hrF⟩ := hrel
      have hBw : w2.heap.size ≤ wr.heap.size := hfw.bl.size
      have y2 := box_cells kx 2 rfl
      have HFW := Lib.hid hfw
      have hcapi : v.bn ≤ v.bc ∧ v.bc ≤ 9223372036854775807 := HD5.out
      have bwr := below_call b1 hfw.bl
      by_cases hlt : i < v.bn
      ·by_cases hlt8 : i < 8
       ·obtain ⟨row, hrow⟩ := at_some a.back i (by have h1 := HH.out.2.t.len; change _ = v.bn at h1; omega)
        obtain ⟨bf, of', hfa, hbf, hcc⟩ := HH.out.2.t.pos (show 0 < v.bn by omega)
        change v.ba = _ at hfa
        change bf < w.heap.size at hbf
        obtain ⟨cs, ⟨R, nr, cr, rfl, hR0, hRd⟩, hcc2⟩ := hcc i row hrow
        have hR := hR0.call bwr
        have x0 := (bwr.cell (p := ⟨bf, of' + i * 1 + 0, none⟩) hbf).trans (hcc2 0 _ rfl)
        rw [Nat.mul_one, Nat.add_zero] at x0
        have hbf2 : bf < w2.heap.size := by omega
        have hnl := hR.len
        obtain ⟨m, hm⟩ : ∃ m : Nat, m = min nr 8 := ⟨_, rfl⟩
        have ma : min (nr : Int) 8 = (m : Int) := by omega
        have mb : (if (8 : Int) < (nr : Int) then (8 : Int) else (nr : Int)) = (m : Int) := by split <;> omega
        have mz : (0 : Int) ≤ (m : Int) := by omega
        have mc : (m : Int) ≤ (cr : Int) := by have := hRd.1; omega
        have md : cr ≤ 9223372036854775807 := hRd.2
        have m8 : m ≤ 8 := by omega
        have HML := Lib.hid (ic_take_len (k := 8) hnl hm)
        have HMR := Lib.hid fun (W : World) (bW : Below wr.heap.size wr W) => (show 0 < m → ∃ b o, R = some ⟨b, o, none⟩ ∧ ∀ j u, (ic (row.take 8))[j]? = some u → W.cell? ⟨b, o + j, none⟩ = some u from by
         have h1 := (hR.call bW).take m (by rw [hm]; exact Nat.min_le_left _ _)
         have h2 := rd_news (show Rd W (lo W.heap.size) R m (row.take m) from h1)
         rw [take_min row hnl, ← hm]
         exact h2)
        have iz : (0 : Int) ≤ (i : Int) := by omega
        have inn : (i : Int) < (v.bn : Int) := by omega
        rw [hfa] at y2
        have yA := box_cells kA 2 rfl
        have HTK := Lib.hid (show (a.back.take (i + 1)).map (·.take 8) = (a.back.take i).map (·.take 8) ++ [row.take 8] by rw [List.take_add_one, hrow]; simp)
        have t8 : (i : Int) < 8 := by omega
        have KXX := Lib.hid kx
        clear hcc hcc2 hrow hnl hm hR hRd hR0 hfa hfw
        go_upto_region 9 with fail
        have HS := Lib.hid fun (W : World) (bW : Below wr.heap.size wr W) => (show W.cell? ⟨gx, 2, none⟩ = some (.slice (some ⟨bf, of', none⟩) v.bn v.bc) ∧ W.cell? ⟨bf, of' + i, none⟩ = some (.slice R nr cr) from ⟨cell_call y2 bW, cell_call x0 bW⟩)
        have bb := Below.refl wr.heap.size wr
        refine wp_region_held_drew (S := fun w' => w'.cell? ⟨gx, 2, none⟩ = some (.slice (some ⟨bf, of', none⟩) v.bn v.bc) ∧ w'.cell? ⟨bf, of' + i, none⟩ = some (.slice R nr cr)) (by kernel_rfl) ?_ (fun hHeld => ?_)
        ·exact HS.out _ (below_drewN bb 1)
        replace bb := below_drewN bb 1
        change Below _ _ wr.drew at bb
        generalize hw0 : wr.drew = W0 at hHeld bb ⊢
        clear hw0
        refine tkB 0 (v := ?_) (by assumption) ?_ ?_
        rotate_left 1
        ·intro w hSw; (try dsimp only at hSw); go_simp; try with_reducible rfl
        refine tkB 3 (v := ?_) (by assumption) ?_ ?_
        rotate_left 1
        ·intro w hSw; (try dsimp only at hSw); go_simp; try with_reducible rfl
        refine tkB 4 (v := ?_) (by assumption) ?_ ?_
        rotate_left 1
        ·intro w hSw; (try dsimp only at hSw); go_simp; try with_reducible rfl
        refine tkB 5 (v := ?_) (by assumption) ?_ ?_
        rotate_left 1
        ·intro w hSw; (try dsimp only at hSw); go_simp; try with_reducible rfl
        refine tkB 6 (v := ?_) (by assumption) ?_ ?_
        rotate_left 1
        ·intro w hSw; (try dsimp only at hSw); go_simp; try with_reducible rfl
        refine tkB 7 (v := ?_) (by assumption) ?_ ?_
        rotate_left 1
        ·intro w hSw; (try dsimp only at hSw); go_simp; try with_reducible rfl
        refine tkB 8 (v := ?_) (by assumption) ?_ ?_
        rotate_left 1
        ·intro w hSw; (try dsimp only at hSw); go_simp; try with_reducible rfl
        refine tkB 9 (v := ?_) (by assumption) ?_ ?_
        rotate_left 1
        ·intro w hSw; (try dsimp only at hSw); go_simp; try with_reducible rfl
        refine tkB 10 (v := ?_) (by assumption) ?_ ?_
        rotate_left 1
        ·intro w hSw; (try dsimp only at hSw); go_simp; try with_reducible rfl
        refine tkB 11 (v := ?_) (by assumption) ?_ ?_
        rotate_left 1
        ·intro w hSw; (try dsimp only at hSw); go_simp; try with_reducible rfl
        refine tkB 12 (v := ?_) (by assumption) ?_ ?_
        rotate_left 1
        ·intro w hSw; (try dsimp only at hSw); go_simp; try with_reducible rfl
        refine tkB 13 (v := ?_) (by assumption) ?_ ?_
        rotate_left 1
        ·intro w hSw; (try dsimp only at hSw); go_simp; try with_reducible rfl
        refine tkB 14 (v := ?_) (by assumption) ?_ ?_
        rotate_left 1
        ·intro w hSw; (try dsimp only at hSw); go_simp; try with_reducible rfl
        refine tkB 15 (v := ?_) (by assumption) ?_ ?_
        rotate_left 1
        ·intro w hSw; (try dsimp only at hSw); go_simp; try with_reducible rfl
        refine wpAnyH_ready (rs := [1, 2]) (by kernel_rfl) (by simp) ?_
        refine AllReadyH.cons (by simp only [List.getElem?_toArray]; rfl) (fun K hK => ?_) (AllReadyH.cons (by simp only [List.getElem?_toArray]; rfl) (fun K hK => ?_) AllReadyH.nil)
        ·have yL := cell_call yA bb
         refine wanted_pos (by kernel_rfl) ?_
         go_simp
         clear hHeld
         refine hK.out _ _ ?_ (fun hHeld => ?_)
         ·exact HS.out _ bb
         clear hK K
         try conv => arg 8; simp only [Act.put, List.setIfInBounds_toArray, List.set_cons_zero, List.set_cons_succ]
         clear yL
         refine wpAnyH_ready (rs := [2]) (by kernel_rfl) (by simp) ?_
         refine AllReadyH.cons (by simp only [List.getElem?_toArray]; rfl) (fun K hK => ?_) AllReadyH.nil
         refine wanted_pos (by kernel_rfl) ?_
         go_simp
         clear hHeld
         refine hK.out _ _ ?_ (fun hHeld => ?_)
         ·exact HS.out _ (below_lit _ _ bb _)
         clear hK K
         try conv => arg 8; simp only [Act.put, List.setIfInBounds_toArray, List.set_cons_zero, List.set_cons_succ]
         have er := Ow.empty 3 1 W0 wr.heap.size bb.size
         replace bb := below_lit _ _ bb (.cells #[] 3)
         generalize W0.alloc (.cells #[] 3) = W1 at *
         refine wpAnyH_ready (rs := [16]) (by kernel_rfl) (by simp) ?_
         refine AllReadyH.cons (by simp only [List.getElem?_toArray]; rfl) (fun K hK => ?_) AllReadyH.nil
         clear hHeld
         refine appStep elt_int (by kernel_rfl) _ _ rfl W1 wr.heap.size _ _ _ [] _ _ _ (ic (row.take 8)) (by rfl) (by rfl) er HML.out (HMR.out _ bb) (ic_one _) (by omega) bb.size ?_
         intro Ar cr2 W2 fr hg hb hat
         rw [List.nil_append, Nat.zero_add] at fr
         rw [Nat.zero_add]
         refine hK.out _ _ ?_ (fun hHeld => ?_)
         ·exact HS.out _ (bb.trans hb)
         clear hK K
         try conv => arg 8; simp only [Act.put, List.setIfInBounds_toArray, List.set_cons_zero, List.set_cons_succ]
         replace bb := bb.trans hb
         clear er hg hb hat
         refine wpAnyH_ready (rs := [17]) (by kernel_rfl) (by simp) ?_
         refine AllReadyH.cons (by simp only [List.getElem?_toArray]; rfl) (fun K hK => ?_) AllReadyH.nil
         refine wanted_pos (by kernel_rfl) ?_
         go_simp
         clear hHeld
         refine hK.out _ _ ?_ (fun hHeld => ?_)
         ·exact HS.out _ (below_lit _ _ bb _)
         clear hK K
         try conv => arg 8; simp only [Act.put, List.setIfInBounds_toArray, List.set_cons_zero, List.set_cons_succ]
         have how := (HFW.out.ow.call bb).alloc (.cells #[.slice Ar m cr2] 23)
         have hnw := news_new W2 [.slice Ar m cr2] 23
         have hs2 : w2.heap.size ≤ (W2.alloc (.cells #[.slice Ar m cr2] 23)).heap.size := by rw [World.size_alloc]; have := bb.size; omega
         have bb3 := below_lit _ _ bb (.cells #[.slice Ar m cr2] 23)
         refine wpAnyH_ready (rs := [18]) (by kernel_rfl) (by simp) ?_
         refine AllReadyH.cons (by simp only [List.getElem?_toArray]; rfl) (fun K hK => ?_) AllReadyH.nil
         clear hHeld
         refine appStep elt_row (by kernel_rfl) _ _ rfl (W2.alloc (.cells #[.slice Ar m cr2] 23)) w2.heap.size _ _ _ css.flatten _ 1 1 [.slice Ar m cr2] (by rfl) (by rfl) how rfl hnw (by simp [Value.oneCell']) (by omega) hs2 ?_
         intro A' c' W4 ho4 hg4 hb4 hat4
         have hgAl : gA < wr.heap.size := kA.lt
         obtain ⟨q1, q2, q3, q4⟩ := HFW.out.push hBw hgB hgAl hAg bb fr ho4 hg4 hb4 hat4 (i := 2) (.slice A' (i + 1) c')
         have nA : ∀ b, b < w2.heap.size → A.map (·.block) ≠ some b := fun b h1 h2 => by have := (HFW.out.ow.blk b h2).1; omega
         have kA4 : Bk W4 gA 38 #[.slice A1 m1 c1, .slice AF nF cF, .slice A i c, .slice A2 m2 c2, .slice A3 m3 c3] := (q3 gA hgAl hAg).trans kA
         have yA4 := box_cells kA4 2 rfl
         have fA4 := kA4.frozen 2
         refine hK.out _ _ ?_ (fun hHeld => ?_)
         ·exact ⟨(World.cell?_of_block (a := ⟨gx, 2, none⟩) (q3 gx kx.lt (nA gx hg1))).trans y2, (World.cell?_of_block (a := ⟨bf, of' + i, none⟩) (q3 bf (by omega) (nA bf (by omega)))).trans x0⟩
         clear hK K
         try conv => arg 8; simp only [Act.put, List.setIfInBounds_toArray, List.set_cons_zero, List.set_cons_succ]
         refine tkB 19 (v := ?_) (by assumption) ?_ ?_
         rotate_left 1
         ·intro w hSw; (try dsimp only at hSw); go_simp; try with_reducible rfl
         refine wpAnyH_ready (rs := [20]) (by kernel_rfl) (by simp) ?_
         refine AllReadyH.cons (by simp only [List.getElem?_toArray]; rfl) (fun K hK => ?_) AllReadyH.nil
         refine wanted_pos (by kernel_rfl) ?_
         go_simp
         clear hHeld
         refine hK.out _ _ ?_ (fun hHeld => ?_)
         ·exact ⟨(World.cell?_of_block (a := ⟨gx, 2, none⟩) (q2 gx kx.lt (nA gx hg1) (by omega))).trans y2, (World.cell?_of_block (a := ⟨bf, of' + i, none⟩) (q2 bf (by omega) (nA bf (by omega)) (by omega))).trans x0⟩
         clear hK K
         try conv => arg 8; simp only [Act.put, List.setIfInBounds_toArray, List.set_cons_zero, List.set_cons_succ]
         refine wpAnyH_done (by kernel_rfl) ?_ _
         go_wp2_with fail
         have kx5 : Bk (W4.setCell ⟨gA, 2, none⟩ (.slice A' (i + 1) c')) gx 38 #[.slice v.ca v.cn v.cc, .slice v.fa v.fn v.fc, .slice v.ba v.bn v.bc, .slice v.ea v.en v.ec, .slice v.ga v.gn v.gc] := (q2 gx kx.lt (nA gx hg1) (by omega)).trans kx
         have kt5 : Bk (W4.setCell ⟨gA, 2, none⟩ (.slice A' (i + 1) c')) gt 38 #[.slice none 0 0, .slice none 0 0, .slice none 0 0, .slice none 0 0, .slice none 0 0] := (q2 gt kt.lt (nA gt hg2) (by omega)).trans kt
         have kA5 := kA4.set_ 2 (.slice A' (i + 1) c')
         have kD : Kept D wr (W4.setCell ⟨gA, 2, none⟩ (.slice A' (i + 1) c')) := fun b hd => q2 b (HFW.out.dl b hd).1 (HFW.out.dl b hd).2.1 (HFW.out.dl b hd).2.2
         go_wp2
         go_roundw
         case rel => exact ⟨i + 1, A', c', _, (fun b => D b ∨ Ar.map (·.block) = some b), by omega, by omega, by go_num, kx5, kt5, kA5, by rw [HTK.out]; exact q1, hr1.mono (fun b hb => .inl hb) kD, hr2.mono (fun b hb => .inl hb) kD, hr3.mono (fun b hb => .inl hb) kD, (fun b hb => hb.elim (fun h => hDB b h) (fun h => by have := (fr.blk b h).1; omega)), (fun e => q4 gA e rfl), hrF.mono (fun b hb => .inl hb) kD⟩
         case measure => simp [intOf]; omega

        ·refine wanted_pos (by kernel_rfl) ?_
         go_simp
         clear hHeld
         refine hK.out _ _ ?_ (fun hHeld => ?_)
         ·exact HS.out _ (below_lit _ _ bb _)
         clear hK K
         try conv => arg 8; simp only [Act.put, List.setIfInBounds_toArray, List.set_cons_zero, List.set_cons_succ]
         have er := Ow.empty 3 1 W0 wr.heap.size bb.size
         replace bb := below_lit _ _ bb (.cells #[] 3)
         generalize W0.alloc (.cells #[] 3) = W1 at *
         refine wpAnyH_ready (rs := [1, 16]) (by kernel_rfl) (by simp) ?_
         refine AllReadyH.cons (by simp only [List.getElem?_toArray]; rfl) (fun K hK => ?_) (AllReadyH.cons (by simp only [List.getElem?_toArray]; rfl) (fun K hK => ?_) AllReadyH.nil)
         ·have yL := cell_call yA bb
          refine wanted_pos (by kernel_rfl) ?_
          go_simp
          clear hHeld
          refine hK.out _ _ ?_ (fun hHeld => ?_)
          ·exact HS.out _ bb
          clear hK K
          try conv => arg 8; simp only [Act.put, List.setIfInBounds_toArray, List.set_cons_zero, List.set_cons_succ]
          clear yL
          refine wpAnyH_ready (rs := [16]) (by kernel_rfl) (by simp) ?_
          refine AllReadyH.cons (by simp only [List.getElem?_toArray]; rfl) (fun K hK => ?_) AllReadyH.nil
          clear hHeld
          refine appStep elt_int (by kernel_rfl) _ _ rfl W1 wr.heap.size _ _ _ [] _ _ _ (ic (row.take 8)) (by rfl) (by rfl) er HML.out (HMR.out _ bb) (ic_one _) (by omega) bb.size ?_
          intro Ar cr2 W2 fr hg hb hat
          rw [List.nil_append, Nat.zero_add] at fr
          rw [Nat.zero_add]
          refine hK.out _ _ ?_ (fun hHeld => ?_)
          ·exact HS.out _ (bb.trans hb)
          clear hK K
          try conv => arg 8; simp only [Act.put, List.setIfInBounds_toArray, List.set_cons_zero, List.set_cons_succ]
          replace bb := bb.trans hb
          clear er hg hb hat
          refine wpAnyH_ready (rs := [17]) (by kernel_rfl) (by simp) ?_
          refine AllReadyH.cons (by simp only [List.getElem?_toArray]; rfl) (fun K hK => ?_) AllReadyH.nil
          refine wanted_pos (by kernel_rfl) ?_
          go_simp
          clear hHeld
          refine hK.out _ _ ?_ (fun hHeld => ?_)
          ·exact HS.out _ (below_lit _ _ bb _)
          clear hK K
          try conv => arg 8; simp only [Act.put, List.setIfInBounds_toArray, List.set_cons_zero, List.set_cons_succ]
          have how := (HFW.out.ow.call bb).alloc (.cells #[.slice Ar m cr2] 23)
          have hnw := news_new W2 [.slice Ar m cr2] 23
          have hs2 : w2.heap.size ≤ (W2.alloc (.cells #[.slice Ar m cr2] 23)).heap.size := by rw [World.size_alloc]; have := bb.size; omega
          have bb3 := below_lit _ _ bb (.cells #[.slice Ar m cr2] 23)
          refine wpAnyH_ready (rs := [18]) (by kernel_rfl) (by simp) ?_
          refine AllReadyH.cons (by simp only [List.getElem?_toArray]; rfl) (fun K hK => ?_) AllReadyH.nil
          clear hHeld
          refine appStep elt_row (by kernel_rfl) _ _ rfl (W2.alloc (.cells #[.slice Ar m cr2] 23)) w2.heap.size _ _ _ css.flatten _ 1 1 [.slice Ar m cr2] (by rfl) (by rfl) how rfl hnw (by simp [Value.oneCell']) (by omega) hs2 ?_
          intro A' c' W4 ho4 hg4 hb4 hat4
          have hgAl : gA < wr.heap.size := kA.lt
          obtain ⟨q1, q2, q3, q4⟩ := HFW.out.push hBw hgB hgAl hAg bb fr ho4 hg4 hb4 hat4 (i := 2) (.slice A' (i + 1) c')
          have nA : ∀ b, b < w2.heap.size → A.map (·.block) ≠ some b := fun b h1 h2 => by have := (HFW.out.ow.blk b h2).1; omega
          have kA4 : Bk W4 gA 38 #[.slice A1 m1 c1, .slice AF nF cF, .slice A i c, .slice A2 m2 c2, .slice A3 m3 c3] := (q3 gA hgAl hAg).trans kA
          have yA4 := box_cells kA4 2 rfl
          have fA4 := kA4.frozen 2
          refine hK.out _ _ ?_ (fun hHeld => ?_)
          ·exact ⟨(World.cell?_of_block (a := ⟨gx, 2, none⟩) (q3 gx kx.lt (nA gx hg1))).trans y2, (World.cell?_of_block (a := ⟨bf, of' + i, none⟩) (q3 bf (by omega) (nA bf (by omega)))).trans x0⟩
          clear hK K
          try conv => arg 8; simp only [Act.put, List.setIfInBounds_toArray, List.set_cons_zero, List.set_cons_succ]
          refine tkB 19 (v := ?_) (by assumption) ?_ ?_
          rotate_left 1
          ·intro w hSw; (try dsimp only at hSw); go_simp; try with_reducible rfl
          refine wpAnyH_ready (rs := [20]) (by kernel_rfl) (by simp) ?_
          refine AllReadyH.cons (by simp only [List.getElem?_toArray]; rfl) (fun K hK => ?_) AllReadyH.nil
          refine wanted_pos (by kernel_rfl) ?_
          go_simp
          clear hHeld
          refine hK.out _ _ ?_ (fun hHeld => ?_)
          ·exact ⟨(World.cell?_of_block (a := ⟨gx, 2, none⟩) (q2 gx kx.lt (nA gx hg1) (by omega))).trans y2, (World.cell?_of_block (a := ⟨bf, of' + i, none⟩) (q2 bf (by omega) (nA bf (by omega)) (by omega))).trans x0⟩
          clear hK K
          try conv => arg 8; simp only [Act.put, List.setIfInBounds_toArray, List.set_cons_zero, List.set_cons_succ]
          refine wpAnyH_done (by kernel_rfl) ?_ _
          go_wp2_with fail
          have kx5 : Bk (W4.setCell ⟨gA, 2, none⟩ (.slice A' (i + 1) c')) gx 38 #[.slice v.ca v.cn v.cc, .slice v.fa v.fn v.fc, .slice v.ba v.bn v.bc, .slice v.ea v.en v.ec, .slice v.ga v.gn v.gc] := (q2 gx kx.lt (nA gx hg1) (by omega)).trans kx
          have kt5 : Bk (W4.setCell ⟨gA, 2, none⟩ (.slice A' (i + 1) c')) gt 38 #[.slice none 0 0, .slice none 0 0, .slice none 0 0, .slice none 0 0, .slice none 0 0] := (q2 gt kt.lt (nA gt hg2) (by omega)).trans kt
          have kA5 := kA4.set_ 2 (.slice A' (i + 1) c')
          have kD : Kept D wr (W4.setCell ⟨gA, 2, none⟩ (.slice A' (i + 1) c')) := fun b hd => q2 b (HFW.out.dl b hd).1 (HFW.out.dl b hd).2.1 (HFW.out.dl b hd).2.2
          go_wp2
          go_roundw
          case rel => exact ⟨i + 1, A', c', _, (fun b => D b ∨ Ar.map (·.block) = some b), by omega, by omega, by go_num, kx5, kt5, kA5, by rw [HTK.out]; exact q1, hr1.mono (fun b hb => .inl hb) kD, hr2.mono (fun b hb => .inl hb) kD, hr3.mono (fun b hb => .inl hb) kD, (fun b hb => hb.elim (fun h => hDB b h) (fun h => by have := (fr.blk b h).1; omega)), (fun e => q4 gA e rfl), hrF.mono (fun b hb => .inl hb) kD⟩
          case measure => simp [intOf]; omega

         ·clear hHeld
          refine appStep elt_int (by kernel_rfl) _ _ rfl W1 wr.heap.size _ _ _ [] _ _ _ (ic (row.take 8)) (by rfl) (by rfl) er HML.out (HMR.out _ bb) (ic_one _) (by omega) bb.size ?_
          intro Ar cr2 W2 fr hg hb hat
          rw [List.nil_append, Nat.zero_add] at fr
          rw [Nat.zero_add]
          refine hK.out _ _ ?_ (fun hHeld => ?_)
          ·exact HS.out _ (bb.trans hb)
          clear hK K
          try conv => arg 8; simp only [Act.put, List.setIfInBounds_toArray, List.set_cons_zero, List.set_cons_succ]
          replace bb := bb.trans hb
          clear er hg hb hat
          refine wpAnyH_ready (rs := [1, 17]) (by kernel_rfl) (by simp) ?_
          refine AllReadyH.cons (by simp only [List.getElem?_toArray]; rfl) (fun K hK => ?_) (AllReadyH.cons (by simp only [List.getElem?_toArray]; rfl) (fun K hK => ?_) AllReadyH.nil)
          ·have yL := cell_call yA bb
           refine wanted_pos (by kernel_rfl) ?_
           go_simp
           clear hHeld
           refine hK.out _ _ ?_ (fun hHeld => ?_)
           ·exact HS.out _ bb
           clear hK K
           try conv => arg 8; simp only [Act.put, List.setIfInBounds_toArray, List.set_cons_zero, List.set_cons_succ]
           clear yL
           refine wpAnyH_ready (rs := [17]) (by kernel_rfl) (by simp) ?_
           refine AllReadyH.cons (by simp only [List.getElem?_toArray]; rfl) (fun K hK => ?_) AllReadyH.nil
           refine wanted_pos (by kernel_rfl) ?_
           go_simp
           clear hHeld
           refine hK.out _ _ ?_ (fun hHeld => ?_)
           ·exact HS.out _ (below_lit _ _ bb _)
           clear hK K
           try conv => arg 8; simp only [Act.put, List.setIfInBounds_toArray, List.set_cons_zero, List.set_cons_succ]
           have how := (HFW.out.ow.call bb).alloc (.cells #[.slice Ar m cr2] 23)
           have hnw := news_new W2 [.slice Ar m cr2] 23
           have hs2 : w2.heap.size ≤ (W2.alloc (.cells #[.slice Ar m cr2] 23)).heap.size := by rw [World.size_alloc]; have := bb.size; omega
           have bb3 := below_lit _ _ bb (.cells #[.slice Ar m cr2] 23)
           refine wpAnyH_ready (rs := [18]) (by kernel_rfl) (by simp) ?_
           refine AllReadyH.cons (by simp only [List.getElem?_toArray]; rfl) (fun K hK => ?_) AllReadyH.nil
           clear hHeld
           refine appStep elt_row (by kernel_rfl) _ _ rfl (W2.alloc (.cells #[.slice Ar m cr2] 23)) w2.heap.size _ _ _ css.flatten _ 1 1 [.slice Ar m cr2] (by rfl) (by rfl) how rfl hnw (by simp [Value.oneCell']) (by omega) hs2 ?_
           intro A' c' W4 ho4 hg4 hb4 hat4
           have hgAl : gA < wr.heap.size := kA.lt
           obtain ⟨q1, q2, q3, q4⟩ := HFW.out.push hBw hgB hgAl hAg bb fr ho4 hg4 hb4 hat4 (i := 2) (.slice A' (i + 1) c')
           have nA : ∀ b, b < w2.heap.size → A.map (·.block) ≠ some b := fun b h1 h2 => by have := (HFW.out.ow.blk b h2).1; omega
           have kA4 : Bk W4 gA 38 #[.slice A1 m1 c1, .slice AF nF cF, .slice A i c, .slice A2 m2 c2, .slice A3 m3 c3] := (q3 gA hgAl hAg).trans kA
           have yA4 := box_cells kA4 2 rfl
           have fA4 := kA4.frozen 2
           refine hK.out _ _ ?_ (fun hHeld => ?_)
           ·exact ⟨(World.cell?_of_block (a := ⟨gx, 2, none⟩) (q3 gx kx.lt (nA gx hg1))).trans y2, (World.cell?_of_block (a := ⟨bf, of' + i, none⟩) (q3 bf (by omega) (nA bf (by omega)))).trans x0⟩
           clear hK K
           try conv => arg 8; simp only [Act.put, List.setIfInBounds_toArray, List.set_cons_zero, List.set_cons_succ]
           refine tkB 19 (v := ?_) (by assumption) ?_ ?_
           rotate_left 1
           ·intro w hSw; (try dsimp only at hSw); go_simp; try with_reducible rfl
           refine wpAnyH_ready (rs := [20]) (by kernel_rfl) (by simp) ?_
           refine AllReadyH.cons (by simp only [List.getElem?_toArray]; rfl) (fun K hK => ?_) AllReadyH.nil
           refine wanted_pos (by kernel_rfl) ?_
           go_simp
           clear hHeld
           refine hK.out _ _ ?_ (fun hHeld => ?_)
           ·exact ⟨(World.cell?_of_block (a := ⟨gx, 2, none⟩) (q2 gx kx.lt (nA gx hg1) (by omega))).trans y2, (World.cell?_of_block (a := ⟨bf, of' + i, none⟩) (q2 bf (by omega) (nA bf (by omega)) (by omega))).trans x0⟩
           clear hK K
           try conv => arg 8; simp only [Act.put, List.setIfInBounds_toArray, List.set_cons_zero, List.set_cons_succ]
           refine wpAnyH_done (by kernel_rfl) ?_ _
           go_wp2_with fail
           have kx5 : Bk (W4.setCell ⟨gA, 2, none⟩ (.slice A' (i + 1) c')) gx 38 #[.slice v.ca v.cn v.cc, .slice v.fa v.fn v.fc, .slice v.ba v.bn v.bc, .slice v.ea v.en v.ec, .slice v.ga v.gn v.gc] := (q2 gx kx.lt (nA gx hg1) (by omega)).trans kx
           have kt5 : Bk (W4.setCell ⟨gA, 2, none⟩ (.slice A' (i + 1) c')) gt 38 #[.slice none 0 0, .slice none 0 0, .slice none 0 0, .slice none 0 0, .slice none 0 0] := (q2 gt kt.lt (nA gt hg2) (by omega)).trans kt
           have kA5 := kA4.set_ 2 (.slice A' (i + 1) c')
           have kD : Kept D wr (W4.setCell ⟨gA, 2, none⟩ (.slice A' (i + 1) c')) := fun b hd => q2 b (HFW.out.dl b hd).1 (HFW.out.dl b hd).2.1 (HFW.out.dl b hd).2.2
           go_wp2
           go_roundw
           case rel => exact ⟨i + 1, A', c', _, (fun b => D b ∨ Ar.map (·.block) = some b), by omega, by omega, by go_num, kx5, kt5, kA5, by rw [HTK.out]; exact q1, hr1.mono (fun b hb => .inl hb) kD, hr2.mono (fun b hb => .inl hb) kD, hr3.mono (fun b hb => .inl hb) kD, (fun b hb => hb.elim (fun h => hDB b h) (fun h => by have := (fr.blk b h).1; omega)), (fun e => q4 gA e rfl), hrF.mono (fun b hb => .inl hb) kD⟩
           case measure => simp [intOf]; omega

          ·refine wanted_pos (by kernel_rfl) ?_
           go_simp
           clear hHeld
           refine hK.out _ _ ?_ (fun hHeld => ?_)
           ·exact HS.out _ (below_lit _ _ bb _)
           clear hK K
           try conv => arg 8; simp only [Act.put, List.setIfInBounds_toArray, List.set_cons_zero, List.set_cons_succ]
           have how := (HFW.out.ow.call bb).alloc (.cells #[.slice Ar m cr2] 23)
           have hnw := news_new W2 [.slice Ar m cr2] 23
           have hs2 : w2.heap.size ≤ (W2.alloc (.cells #[.slice Ar m cr2] 23)).heap.size := by rw [World.size_alloc]; have := bb.size; omega
           have bb3 := below_lit _ _ bb (.cells #[.slice Ar m cr2] 23)
           refine wpAnyH_ready (rs := [1]) (by kernel_rfl) (by simp) ?_
           refine AllReadyH.cons (by simp only [List.getElem?_toArray]; rfl) (fun K hK => ?_) AllReadyH.nil
           have yL := cell_call yA bb3
           refine wanted_pos (by kernel_rfl) ?_
           go_simp
           clear hHeld
           refine hK.out _ _ ?_ (fun hHeld => ?_)
           ·exact HS.out _ bb3
           clear hK K
           try conv => arg 8; simp only [Act.put, List.setIfInBounds_toArray, List.set_cons_zero, List.set_cons_succ]
           clear yL
           refine wpAnyH_ready (rs := [18]) (by kernel_rfl) (by simp) ?_
           refine AllReadyH.cons (by simp only [List.getElem?_toArray]; rfl) (fun K hK => ?_) AllReadyH.nil
           clear hHeld
           refine appStep elt_row (by kernel_rfl) _ _ rfl (W2.alloc (.cells #[.slice Ar m cr2] 23)) w2.heap.size _ _ _ css.flatten _ 1 1 [.slice Ar m cr2] (by rfl) (by rfl) how rfl hnw (by simp [Value.oneCell']) (by omega) hs2 ?_
           intro A' c' W4 ho4 hg4 hb4 hat4
           have hgAl : gA < wr.heap.size := kA.lt
           obtain ⟨q1, q2, q3, q4⟩ := HFW.out.push hBw hgB hgAl hAg bb fr ho4 hg4 hb4 hat4 (i := 2) (.slice A' (i + 1) c')
           have nA : ∀ b, b < w2.heap.size → A.map (·.block) ≠ some b := fun b h1 h2 => by have := (HFW.out.ow.blk b h2).1; omega
           have kA4 : Bk W4 gA 38 #[.slice A1 m1 c1, .slice AF nF cF, .slice A i c, .slice A2 m2 c2, .slice A3 m3 c3] := (q3 gA hgAl hAg).trans kA
           have yA4 := box_cells kA4 2 rfl
           have fA4 := kA4.frozen 2
           refine hK.out _ _ ?_ (fun hHeld => ?_)
           ·exact ⟨(World.cell?_of_block (a := ⟨gx, 2, none⟩) (q3 gx kx.lt (nA gx hg1))).trans y2, (World.cell?_of_block (a := ⟨bf, of' + i, none⟩) (q3 bf (by omega) (nA bf (by omega)))).trans x0⟩
           clear hK K
           try conv => arg 8; simp only [Act.put, List.setIfInBounds_toArray, List.set_cons_zero, List.set_cons_succ]
           refine tkB 19 (v := ?_) (by assumption) ?_ ?_
           rotate_left 1
           ·intro w hSw; (try dsimp only at hSw); go_simp; try with_reducible rfl
           refine wpAnyH_ready (rs := [20]) (by kernel_rfl) (by simp) ?_
           refine AllReadyH.cons (by simp only [List.getElem?_toArray]; rfl) (fun K hK => ?_) AllReadyH.nil
           refine wanted_pos (by kernel_rfl) ?_
           go_simp
           clear hHeld
           refine hK.out _ _ ?_ (fun hHeld => ?_)
           ·exact ⟨(World.cell?_of_block (a := ⟨gx, 2, none⟩) (q2 gx kx.lt (nA gx hg1) (by omega))).trans y2, (World.cell?_of_block (a := ⟨bf, of' + i, none⟩) (q2 bf (by omega) (nA bf (by omega)) (by omega))).trans x0⟩
           clear hK K
           try conv => arg 8; simp only [Act.put, List.setIfInBounds_toArray, List.set_cons_zero, List.set_cons_succ]
           refine wpAnyH_done (by kernel_rfl) ?_ _
           go_wp2_with fail
           have kx5 : Bk (W4.setCell ⟨gA, 2, none⟩ (.slice A' (i + 1) c')) gx 38 #[.slice v.ca v.cn v.cc, .slice v.fa v.fn v.fc, .slice v.ba v.bn v.bc, .slice v.ea v.en v.ec, .slice v.ga v.gn v.gc] := (q2 gx kx.lt (nA gx hg1) (by omega)).trans kx
           have kt5 : Bk (W4.setCell ⟨gA, 2, none⟩ (.slice A' (i + 1) c')) gt 38 #[.slice none 0 0, .slice none 0 0, .slice none 0 0, .slice none 0 0, .slice none 0 0] := (q2 gt kt.lt (nA gt hg2) (by omega)).trans kt
           have kA5 := kA4.set_ 2 (.slice A' (i + 1) c')
           have kD : Kept D wr (W4.setCell ⟨gA, 2, none⟩ (.slice A' (i + 1) c')) := fun b hd => q2 b (HFW.out.dl b hd).1 (HFW.out.dl b hd).2.1 (HFW.out.dl b hd).2.2
           go_wp2
           go_roundw
           case rel => exact ⟨i + 1, A', c', _, (fun b => D b ∨ Ar.map (·.block) = some b), by omega, by omega, by go_num, kx5, kt5, kA5, by rw [HTK.out]; exact q1, hr1.mono (fun b hb => .inl hb) kD, hr2.mono (fun b hb => .inl hb) kD, hr3.mono (fun b hb => .inl hb) kD, (fun b hb => hb.elim (fun h => hDB b h) (fun h => by have := (fr.blk b h).1; omega)), (fun e => q4 gA e rfl), hrF.mono (fun b hb => .inl hb) kD⟩
           case measure => simp [intOf]; omega

       ·have t8 : ¬ (i : Int) < 8 := by omega
        have inn : (i : Int) < (v.bn : Int) := by omega
        have htk : a.back.take i = a.back.take 8 := by rw [show i = 8 by omega]
        rw [htk] at hfw
        have hrB := hfw.rd2
        have hdB := hfw.ow.hd
        have bl5 := hfw.bl
        have hDl : ∀ b, (D b ∨ A.map (·.block) = some b) → b < wr.heap.size := fun b hb => by
         rcases hb with hb | hb
         ·exact (hfw.dl b hb).1
         ·exact (hfw.ow.blk b hb).2.1
        have hDp : ∀ b, (D b ∨ A.map (·.block) = some b) → Plain wr b := fun b hb => by
         rcases hb with hb | hb
         ·exact hfw.pl b hb
         ·exact hfw.ow.plain hb
        have hDt : ∀ b, (D b ∨ A.map (·.block) = some b) → b ≠ gt := fun b hb => by
         rcases hb with hb | hb
         ·have := hDB b hb; omega
         ·have := (hfw.ow.blk b hb).1; omega
        have t0 := box_cells kt 0 rfl
        have tf0 := kt.frozen 0
        have y0 := box_cells kA 0 rfl
        have t1 := box_cells kt 1 rfl
        have tf1 := kt.frozen 1
        have y1 := box_cells kA 1 rfl
        have t2 := box_cells kt 2 rfl
        have tf2 := kt.frozen 2
        have y2 := box_cells kA 2 rfl
        have t3 := box_cells kt 3 rfl
        have tf3 := kt.frozen 3
        have y3 := box_cells kA 3 rfl
        have t4 := box_cells kt 4 rfl
        have tf4 := kt.frozen 4
        have y4 := box_cells kA 4 rfl
        have hkS := store5_bk kt (.slice A1 m1 c1) (.slice AF nF cF) (.slice A i c) (.slice A2 m2 c2) (.slice A3 m3 c3)
        have hbS := store5_below (w := w) (g := gt) (below_call b1 bl5) (by omega) (.slice A1 m1 c1) (.slice AF nF cF) (.slice A i c) (.slice A2 m2 c2) (.slice A3 m3 c3)
        have hk0 := store5_kept (S := fun b => D b ∨ A.map (·.block) = some b) (W := wr) gt (.slice A1 m1 c1) (.slice AF nF cF) (.slice A i c) (.slice A2 m2 c2) (.slice A3 m3 c3)
        have hDg : ∀ b, (D b ∨ A.map (·.block) = some b) → w.heap.size ≤ b := fun b hb => by
         rcases hb with hb | hb
         ·have := hDB b hb; omega
         ·have := (hfw.ow.blk b hb).1; omega
        have HK := Lib.hid (few_isA (a := a) hDg hDp hDl (fun b hb => hk0.1 b ⟨hb, hDt b hb⟩) (Nat.le_of_eq hk0.2.symm) (hr1.mono (fun b h => .inl h) (Kept.refl _ _)) (hrF.mono (fun b h => .inl h) (Kept.refl _ _)) hrB (hr2.mono (fun b h => .inl h) (Kept.refl _ _)) (hr3.mono (fun b h => .inl h) (Kept.refl _ _)) HQ1.out HdF.out hdB HQ2.out HQ3.out)
        unfold store5 at hkS hbS HK
        have HBS := Lib.hid hbS
        clear hbS hk0 hDp hDl hDt hDg hdB hrB hfw HFW hr1 hr2 hr3 hrF hDB htk bwr hcapi hlt kx kt kA hBw hAg hin hi8 bl5
        clear HV HD1 HD2 HD3 HD4 HD5 m1a m1b m1z hm1c hm1d HL1 HR1 m2a m2b m2z hm2c hm2d HL2 HR2 m3a m3b m3z hm3c hm3d HL3 HR3 HM1 HM2 HM3 HH hww HE hg2 hgt hg1 hD0 hDB0 e1 e2 e3 bb b1 hbl hgB HQ1 HQ2 HQ3 HdF
        repeat (first | go_values | go_skip | go_guarded | go_step | go_upon)
        have r0 := box_cells hkS 0 rfl
        have r1 := box_cells hkS 1 rfl
        have r2 := box_cells hkS 2 rfl
        have r3 := box_cells hkS 3 rfl
        have r4 := box_cells hkS 4 rfl
        refine bodyPost_ret (v := .agg #[.slice A1 m1 c1, .slice AF nF cF, .slice A i c, .slice A2 m2 c2, .slice A3 m3 c3]) (by simp [results, Tryd.results22, go_sem, r0, r1, r2, r3, r4]) rfl ⟨⟨A1, m1, c1, AF, nF, cF, A, i, c, A2, m2, c2, A3, m3, c3⟩, rfl, HK.out, HBS.out⟩

      ·have inn : ¬ (i : Int) < (v.bn : Int) := by omega
       have htk : a.back.take i = a.back.take 8 := by rw [List.take_of_length_le (show a.back.length ≤ 8 by have h1 := HH.out.2.t.len; change _ = v.bn at h1; omega), List.take_of_length_le (show a.back.length ≤ i by have h1 := HH.out.2.t.len; change _ = v.bn at h1; omega)]
       rw [htk] at hfw
       have hrB := hfw.rd2
       have hdB := hfw.ow.hd
       have bl5 := hfw.bl
       have hDl : ∀ b, (D b ∨ A.map (·.block) = some b) → b < wr.heap.size := fun b hb => by
        rcases hb with hb | hb
        ·exact (hfw.dl b hb).1
        ·exact (hfw.ow.blk b hb).2.1
       have hDp : ∀ b, (D b ∨ A.map (·.block) = some b) → Plain wr b := fun b hb => by
        rcases hb with hb | hb
        ·exact hfw.pl b hb
        ·exact hfw.ow.plain hb
       have hDt : ∀ b, (D b ∨ A.map (·.block) = some b) → b ≠ gt := fun b hb => by
        rcases hb with hb | hb
        ·have := hDB b hb; omega
        ·have := (hfw.ow.blk b hb).1; omega
       have t0 := box_cells kt 0 rfl
       have tf0 := kt.frozen 0
       have y0 := box_cells kA 0 rfl
       have t1 := box_cells kt 1 rfl
       have tf1 := kt.frozen 1
       have y1 := box_cells kA 1 rfl
       have t2 := box_cells kt 2 rfl
       have tf2 := kt.frozen 2
       have y2 := box_cells kA 2 rfl
       have t3 := box_cells kt 3 rfl
       have tf3 := kt.frozen 3
       have y3 := box_cells kA 3 rfl
       have t4 := box_cells kt 4 rfl
       have tf4 := kt.frozen 4
       have y4 := box_cells kA 4 rfl
       have hkS := store5_bk kt (.slice A1 m1 c1) (.slice AF nF cF) (.slice A i c) (.slice A2 m2 c2) (.slice A3 m3 c3)
       have hbS := store5_below (w := w) (g := gt) (below_call b1 bl5) (by omega) (.slice A1 m1 c1) (.slice AF nF cF) (.slice A i c) (.slice A2 m2 c2) (.slice A3 m3 c3)
       have hk0 := store5_kept (S := fun b => D b ∨ A.map (·.block) = some b) (W := wr) gt (.slice A1 m1 c1) (.slice AF nF cF) (.slice A i c) (.slice A2 m2 c2) (.slice A3 m3 c3)
       have hDg : ∀ b, (D b ∨ A.map (·.block) = some b) → w.heap.size ≤ b := fun b hb => by
        rcases hb with hb | hb
        ·have := hDB b hb; omega
        ·have := (hfw.ow.blk b hb).1; omega
       have HK := Lib.hid (few_isA (a := a) hDg hDp hDl (fun b hb => hk0.1 b ⟨hb, hDt b hb⟩) (Nat.le_of_eq hk0.2.symm) (hr1.mono (fun b h => .inl h) (Kept.refl _ _)) (hrF.mono (fun b h => .inl h) (Kept.refl _ _)) hrB (hr2.mono (fun b h => .inl h) (Kept.refl _ _)) (hr3.mono (fun b h => .inl h) (Kept.refl _ _)) HQ1.out HdF.out hdB HQ2.out HQ3.out)
       unfold store5 at hkS hbS HK
       have HBS := Lib.hid hbS
       clear hbS hk0 hDp hDl hDt hDg hdB hrB hfw HFW hr1 hr2 hr3 hrF hDB htk bwr hcapi hlt kx kt kA hBw hAg hin hi8 bl5
       clear HV HD1 HD2 HD3 HD4 HD5 m1a m1b m1z hm1c hm1d HL1 HR1 m2a m2b m2z hm2c hm2d HL2 HR2 m3a m3b m3z hm3c hm3d HL3 HR3 HM1 HM2 HM3 HH hww HE hg2 hgt hg1 hD0 hDB0 e1 e2 e3 bb b1 hbl hgB HQ1 HQ2 HQ3 HdF
       repeat (first | go_values | go_skip | go_guarded | go_step | go_upon)
       have r0 := box_cells hkS 0 rfl
       have r1 := box_cells hkS 1 rfl
       have r2 := box_cells hkS 2 rfl
       have r3 := box_cells hkS 3 rfl
       have r4 := box_cells hkS 4 rfl
       refine bodyPost_ret (v := .agg #[.slice A1 m1 c1, .slice AF nF cF, .slice A i c, .slice A2 m2 c2, .slice A3 m3 c3]) (by simp [results, Tryd.results22, go_sem, r0, r1, r2, r3, r4]) rfl ⟨⟨A1, m1, c1, AF, nF, cF, A, i, c, A2, m2, c2, A3, m3, c3⟩, rfl, HK.out, HBS.out⟩



   ·have inn : ¬ (i : Int) < (v.fn : Int) := by omega
    have htk : a.fore.take i = a.fore.take 8 := by rw [List.take_of_length_le (show a.fore.length ≤ 8 by have h1 := HH.out.1.t.len; change _ = v.fn at h1; omega), List.take_of_length_le (show a.fore.length ≤ i by have h1 := HH.out.1.t.len; change _ = v.fn at h1; omega)]
    rw [htk] at hfw
    have hrF := hfw.rd2
    have HdF := Lib.hid hfw.ow.hd
    have hDL : ∀ b, (D b ∨ A.map (·.block) = some b) → b < wr.heap.size ∧ (none : Option Addr).map (·.block) ≠ some b ∧ b ≠ gA := fun b hb => by
     rcases hb with hb | hb
     ·exact ⟨(hfw.dl b hb).1, by simp, (hfw.dl b hb).2.2⟩
     ·exact ⟨(hfw.ow.blk b hb).2.1, by simp, fun e => hAg (by rw [hb, e])⟩
    have hDB2 : ∀ b, (D b ∨ A.map (·.block) = some b) → w2.heap.size ≤ b := fun b hb => by
     rcases hb with hb | hb
     ·exact hDB b hb
     ·exact (hfw.ow.blk b hb).1
    have hDP2 : ∀ b, (D b ∨ A.map (·.block) = some b) → Plain wr b := fun b hb => by
     rcases hb with hb | hb
     ·exact hfw.pl b hb
     ·exact hfw.ow.plain hb
    have hbl := hfw.bl
    replace hr1 : Rd wr (fun b => D b ∨ A.map (·.block) = some b) A1 m1 (a.cls.take 12) := hr1.mono (fun b h => .inl h) (Kept.refl _ _)
    replace hr2 : RdU wr (fun b => D b ∨ A.map (·.block) = some b) A2 m2 (a.fe.take 9) := hr2.mono (fun b h => .inl h) (Kept.refl _ _)
    replace hr3 : RdU wr (fun b => D b ∨ A.map (·.block) = some b) A3 m3 (a.be.take 9) := hr3.mono (fun b h => .inl h) (Kept.refl _ _)
    obtain ⟨D0, hD0⟩ : ∃ D0 : Nat → Prop, D0 = (fun b => D b ∨ A.map (·.block) = some b) := ⟨_, rfl⟩
    have hDL' : ∀ b, D0 b → b < wr.heap.size ∧ (none : Option Addr).map (·.block) ≠ some b ∧ b ≠ gA := by rw [hD0]; exact hDL
    have hDB' : ∀ b, D0 b → w2.heap.size ≤ b := by rw [hD0]; exact hDB2
    have hDP' : ∀ b, D0 b → Plain wr b := by rw [hD0]; exact hDP2
    rw [← hD0] at hr1 hr2 hr3 hrF
    clear hD0 hDL hDB2 hDP2 HFW hfw hDB hAg htk hBw
    obtain ⟨nF, hnF⟩ : ∃ k, k = i := ⟨_, rfl⟩
    subst hnF
    obtain ⟨AF, hAF⟩ : ∃ k, k = A := ⟨_, rfl⟩
    subst hAF
    obtain ⟨cF, hcF⟩ : ∃ k, k = c := ⟨_, rfl⟩
    subst hcF
    go_wp2
    go_loopw [5] (fun iv wr => ∃ (i : Nat) (A : Option Addr) (c : Nat) (css : List (List Value)) (D : Nat → Prop), i ≤ 8 ∧ i ≤ v.bn ∧ iv = .int .i64 i ∧ Bk wr gx 38 #[.slice v.ca v.cn v.cc, .slice v.fa v.fn v.fc, .slice v.ba v.bn v.bc, .slice v.ea v.en v.ec, .slice v.ga v.gn v.gc] ∧ Bk wr gt 38 #[.slice none 0 0, .slice none 0 0, .slice none 0 0, .slice none 0 0, .slice none 0 0] ∧ Bk wr gA 38 #[.slice A1 m1 c1, .slice AF nF cF, .slice A i c, .slice A2 m2 c2, .slice A3 m3 c3] ∧ FwL w2 wr w2.heap.size gA D A i c css ((a.back.take i).map (·.take 8)) ∧ Rd wr D A1 m1 (a.cls.take 12) ∧ RdU wr D A2 m2 (a.fe.take 9) ∧ RdU wr D A3 m3 (a.be.take 9) ∧ (∀ b, D b → w2.heap.size ≤ b) ∧ (A.map (·.block) ≠ some gA) ∧ RdV wr D AF nF ((a.fore.take 8).map (·.take 8))) (fun iv _ => v.bn - (intOf iv).toNat)
    case atStart => exact ⟨0, none, 0, [], D0, by omega, by omega, rfl, kx, kt, kA, ⟨Ow.nil _ _ _ _, RowOf.nil, hDL', hbl, hDP'⟩, hr1, hr2, hr3, hDB', by simp, hrF⟩
    case round =>
     obtain ⟨i, A, c, css, D, hi8, hin, rfl, kx, kt, kA, hfw, hr1, hr2, hr3, hDB, hAg, hrF⟩ := hrel
     have hBw : w2.heap.size ≤ wr.heap.size := hfw.bl.size
     have y2 := box_cells kx 2 rfl
     have HFW := Lib.hid hfw
     have hcapi : v.bn ≤ v.bc ∧ v.bc ≤ 9223372036854775807 := HD5.out
     have bwr := below_call b1 hfw.bl
     by_cases hlt : i < v.bn
     ·by_cases hlt8 : i < 8
      ·obtain ⟨row, hrow⟩ := at_some a.back i (by have h1 := HH.out.2.t.len; change _ = v.bn at h1; omega)
       obtain ⟨bf, of', hfa, hbf, hcc⟩ := HH.out.2.t.pos (show 0 < v.bn by omega)
       change v.ba = _ at hfa
       change bf < w.heap.size at hbf
       obtain ⟨cs, ⟨R, nr, cr, rfl, hR0, hRd⟩, hcc2⟩ := hcc i row hrow
       have hR := hR0.call bwr
       have x0 := (bwr.cell (p := ⟨bf, of' + i * 1 + 0, none⟩) hbf).trans (hcc2 0 _ rfl)
       rw [Nat.mul_one, Nat.add_zero] at x0
       have hbf2 : bf < w2.heap.size := by omega
       have hnl := hR.len
       obtain ⟨m, hm⟩ : ∃ m : Nat, m = min nr 8 := ⟨_, rfl⟩
       have ma : min (nr : Int) 8 = (m : Int) := by omega
       have mb : (if (8 : Int) < (nr : Int) then (8 : Int) else (nr : Int)) = (m : Int) := by split <;> omega
       have mz : (0 : Int) ≤ (m : Int) := by omega
       have mc : (m : Int) ≤ (cr : Int) := by have := hRd.1; omega
       have md : cr ≤ 9223372036854775807 := hRd.2
       have m8 : m ≤ 8 := by omega
       have HML := Lib.hid (ic_take_len (k := 8) hnl hm)
       have HMR := Lib.hid fun (W : World) (bW : Below wr.heap.size wr W) => (show 0 < m → ∃ b o, R = some ⟨b, o, none⟩ ∧ ∀ j u, (ic (row.take 8))[j]? = some u → W.cell? ⟨b, o + j, none⟩ = some u from by
        have h1 := (hR.call bW).take m (by rw [hm]; exact Nat.min_le_left _ _)
        have h2 := rd_news (show Rd W (lo W.heap.size) R m (row.take m) from h1)
        rw [take_min row hnl, ← hm]
        exact h2)
       have iz : (0 : Int) ≤ (i : Int) := by omega
       have inn : (i : Int) < (v.bn : Int) := by omega
       rw [hfa] at y2
       have yA := box_cells kA 2 rfl
       have HTK := Lib.hid (show (a.back.take (i + 1)).map (·.take 8) = (a.back.take i).map (·.take 8) ++ [row.take 8] by rw [List.take_add_one, hrow]; simp)
       have t8 : (i : Int) < 8 := by omega
       have KXX := Lib.hid kx
       clear hcc hcc2 hrow hnl hm hR hRd hR0 hfa hfw
       go_upto_region 9 with fail
       have HS := Lib.hid fun (W : World) (bW : Below wr.heap.size wr W) => (show W.cell? ⟨gx, 2, none⟩ = some (.slice (some ⟨bf, of', none⟩) v.bn v.bc) ∧ W.cell? ⟨bf, of' + i, none⟩ = some (.slice R nr cr) from ⟨cell_call y2 bW, cell_call x0 bW⟩)
       have bb := Below.refl wr.heap.size wr
       refine wp_region_held_drew (S := fun w' => w'.cell? ⟨gx, 2, none⟩ = some (.slice (some ⟨bf, of', none⟩) v.bn v.bc) ∧ w'.cell? ⟨bf, of' + i, none⟩ = some (.slice R nr cr)) (by kernel_rfl) ?_ (fun hHeld => ?_)
       ·exact HS.out _ (below_drewN bb 1)
       replace bb := below_drewN bb 1
       change Below _ _ wr.drew at bb
       generalize hw0 : wr.drew = W0 at hHeld bb ⊢
       clear hw0
       refine tkB 0 (v := ?_) (by assumption) ?_ ?_
       rotate_left 1
       ·intro w hSw; (try dsimp only at hSw); go_simp; try with_reducible rfl
       refine tkB 3 (v := ?_) (by assumption) ?_ ?_
       rotate_left 1
       ·intro w hSw; (try dsimp only at hSw); go_simp; try with_reducible rfl
       refine tkB 4 (v := ?_) (by assumption) ?_ ?_
       rotate_left 1
       ·intro w hSw; (try dsimp only at hSw); go_simp; try with_reducible rfl
       refine tkB 5 (v := ?_) (by assumption) ?_ ?_
       rotate_left 1
       ·intro w hSw; (try dsimp only at hSw); go_simp; try with_reducible rfl
       refine tkB 6 (v := ?_) (by assumption) ?_ ?_
       rotate_left 1
       ·intro w hSw; (try dsimp only at hSw); go_simp; try with_reducible rfl
       refine tkB 7 (v := ?_) (by assumption) ?_ ?_
       rotate_left 1
       ·intro w hSw; (try dsimp only at hSw); go_simp; try with_reducible rfl
       refine tkB 8 (v := ?_) (by assumption) ?_ ?_
       rotate_left 1
       ·intro w hSw; (try dsimp only at hSw); go_simp; try with_reducible rfl
       refine tkB 9 (v := ?_) (by assumption) ?_ ?_
       rotate_left 1
       ·intro w hSw; (try dsimp only at hSw); go_simp; try with_reducible rfl
       refine tkB 10 (v := ?_) (by assumption) ?_ ?_
       rotate_left 1
       ·intro w hSw; (try dsimp only at hSw); go_simp; try with_reducible rfl
       refine tkB 11 (v := ?_) (by assumption) ?_ ?_
       rotate_left 1
       ·intro w hSw; (try dsimp only at hSw); go_simp; try with_reducible rfl
       refine tkB 12 (v := ?_) (by assumption) ?_ ?_
       rotate_left 1
       ·intro w hSw; (try dsimp only at hSw); go_simp; try with_reducible rfl
       refine tkB 13 (v := ?_) (by assumption) ?_ ?_
       rotate_left 1
       ·intro w hSw; (try dsimp only at hSw); go_simp; try with_reducible rfl
       refine tkB 14 (v := ?_) (by assumption) ?_ ?_
       rotate_left 1
       ·intro w hSw; (try dsimp only at hSw); go_simp; try with_reducible rfl
       refine tkB 15 (v := ?_) (by assumption) ?_ ?_
       rotate_left 1
       ·intro w hSw; (try dsimp only at hSw); go_simp; try with_reducible rfl
       refine wpAnyH_ready (rs := [1, 2]) (by kernel_rfl) (by simp) ?_
       refine AllReadyH.cons (by simp only [List.getElem?_toArray]; rfl) (fun K hK => ?_) (AllReadyH.cons (by simp only [List.getElem?_toArray]; rfl) (fun K hK => ?_) AllReadyH.nil)
       ·have yL := cell_call yA bb
        refine wanted_pos (by kernel_rfl) ?_
        go_simp
        clear hHeld
        refine hK.out _ _ ?_ (fun hHeld => ?_)
        ·exact HS.out _ bb
        clear hK K
        try conv => arg 8; simp only [Act.put, List.setIfInBounds_toArray, List.set_cons_zero, List.set_cons_succ]
        clear yL
        refine wpAnyH_ready (rs := [2]) (by kernel_rfl) (by simp) ?_
        refine AllReadyH.cons (by simp only [List.getElem?_toArray]; rfl) (fun K hK => ?_) AllReadyH.nil
        refine wanted_pos (by kernel_rfl) ?_
        go_simp
        clear hHeld
        refine hK.out _ _ ?_ (fun hHeld => ?_)
        ·exact HS.out _ (below_lit _ _ bb _)
        clear hK K
        try conv => arg 8; simp only [Act.put, List.setIfInBounds_toArray, List.set_cons_zero, List.set_cons_succ]
        have er := Ow.empty 3 1 W0 wr.heap.size bb.size
        replace bb := below_lit _ _ bb (.cells #[] 3)
        generalize W0.alloc (.cells #[] 3) = W1 at *
        refine wpAnyH_ready (rs := [16]) (by kernel_rfl) (by simp) ?_
        refine AllReadyH.cons (by simp only [List.getElem?_toArray]; rfl) (fun K hK => ?_) AllReadyH.nil
        clear hHeld
        refine appStep elt_int (by kernel_rfl) _ _ rfl W1 wr.heap.size _ _ _ [] _ _ _ (ic (row.take 8)) (by rfl) (by rfl) er HML.out (HMR.out _ bb) (ic_one _) (by omega) bb.size ?_
        intro Ar cr2 W2 fr hg hb hat
        rw [List.nil_append, Nat.zero_add] at fr
        rw [Nat.zero_add]
        refine hK.out _ _ ?_ (fun hHeld => ?_)
        ·exact HS.out _ (bb.trans hb)
        clear hK K
        try conv => arg 8; simp only [Act.put, List.setIfInBounds_toArray, List.set_cons_zero, List.set_cons_succ]
        replace bb := bb.trans hb
        clear er hg hb hat
        refine wpAnyH_ready (rs := [17]) (by kernel_rfl) (by simp) ?_
        refine AllReadyH.cons (by simp only [List.getElem?_toArray]; rfl) (fun K hK => ?_) AllReadyH.nil
        refine wanted_pos (by kernel_rfl) ?_
        go_simp
        clear hHeld
        refine hK.out _ _ ?_ (fun hHeld => ?_)
        ·exact HS.out _ (below_lit _ _ bb _)
        clear hK K
        try conv => arg 8; simp only [Act.put, List.setIfInBounds_toArray, List.set_cons_zero, List.set_cons_succ]
        have how := (HFW.out.ow.call bb).alloc (.cells #[.slice Ar m cr2] 23)
        have hnw := news_new W2 [.slice Ar m cr2] 23
        have hs2 : w2.heap.size ≤ (W2.alloc (.cells #[.slice Ar m cr2] 23)).heap.size := by rw [World.size_alloc]; have := bb.size; omega
        have bb3 := below_lit _ _ bb (.cells #[.slice Ar m cr2] 23)
        refine wpAnyH_ready (rs := [18]) (by kernel_rfl) (by simp) ?_
        refine AllReadyH.cons (by simp only [List.getElem?_toArray]; rfl) (fun K hK => ?_) AllReadyH.nil
        clear hHeld
        refine appStep elt_row (by kernel_rfl) _ _ rfl (W2.alloc (.cells #[.slice Ar m cr2] 23)) w2.heap.size _ _ _ css.flatten _ 1 1 [.slice Ar m cr2] (by rfl) (by rfl) how rfl hnw (by simp [Value.oneCell']) (by omega) hs2 ?_
        intro A' c' W4 ho4 hg4 hb4 hat4
        have hgAl : gA < wr.heap.size := kA.lt
        obtain ⟨q1, q2, q3, q4⟩ := HFW.out.push hBw hgB hgAl hAg bb fr ho4 hg4 hb4 hat4 (i := 2) (.slice A' (i + 1) c')
        have nA : ∀ b, b < w2.heap.size → A.map (·.block) ≠ some b := fun b h1 h2 => by have := (HFW.out.ow.blk b h2).1; omega
        have kA4 : Bk W4 gA 38 #[.slice A1 m1 c1, .slice AF nF cF, .slice A i c, .slice A2 m2 c2, .slice A3 m3 c3] := (q3 gA hgAl hAg).trans kA
        have yA4 := box_cells kA4 2 rfl
        have fA4 := kA4.frozen 2
        refine hK.out _ _ ?_ (fun hHeld => ?_)
        ·exact ⟨(World.cell?_of_block (a := ⟨gx, 2, none⟩) (q3 gx kx.lt (nA gx hg1))).trans y2, (World.cell?_of_block (a := ⟨bf, of' + i, none⟩) (q3 bf (by omega) (nA bf (by omega)))).trans x0⟩
        clear hK K
        try conv => arg 8; simp only [Act.put, List.setIfInBounds_toArray, List.set_cons_zero, List.set_cons_succ]
        refine tkB 19 (v := ?_) (by assumption) ?_ ?_
        rotate_left 1
        ·intro w hSw; (try dsimp only at hSw); go_simp; try with_reducible rfl
        refine wpAnyH_ready (rs := [20]) (by kernel_rfl) (by simp) ?_
        refine AllReadyH.cons (by simp only [List.getElem?_toArray]; rfl) (fun K hK => ?_) AllReadyH.nil
        refine wanted_pos (by kernel_rfl) ?_
        go_simp
        clear hHeld
        refine hK.out _ _ ?_ (fun hHeld => ?_)
        ·exact ⟨(World.cell?_of_block (a := ⟨gx, 2, none⟩) (q2 gx kx.lt (nA gx hg1) (by omega))).trans y2, (World.cell?_of_block (a := ⟨bf, of' + i, none⟩) (q2 bf (by omega) (nA bf (by omega)) (by omega))).trans x0⟩
        clear hK K
        try conv => arg 8; simp only [Act.put, List.setIfInBounds_toArray, List.set_cons_zero, List.set_cons_succ]
        refine wpAnyH_done (by kernel_rfl) ?_ _
        go_wp2_with fail
        have kx5 : Bk (W4.setCell ⟨gA, 2, none⟩ (.slice A' (i + 1) c')) gx 38 #[.slice v.ca v.cn v.cc, .slice v.fa v.fn v.fc, .slice v.ba v.bn v.bc, .slice v.ea v.en v.ec, .slice v.ga v.gn v.gc] := (q2 gx kx.lt (nA gx hg1) (by omega)).trans kx
        have kt5 : Bk (W4.setCell ⟨gA, 2, none⟩ (.slice A' (i + 1) c')) gt 38 #[.slice none 0 0, .slice none 0 0, .slice none 0 0, .slice none 0 0, .slice none 0 0] := (q2 gt kt.lt (nA gt hg2) (by omega)).trans kt
        have kA5 := kA4.set_ 2 (.slice A' (i + 1) c')
        have kD : Kept D wr (W4.setCell ⟨gA, 2, none⟩ (.slice A' (i + 1) c')) := fun b hd => q2 b (HFW.out.dl b hd).1 (HFW.out.dl b hd).2.1 (HFW.out.dl b hd).2.2
        go_wp2
        go_roundw
        case rel => exact ⟨i + 1, A', c', _, (fun b => D b ∨ Ar.map (·.block) = some b), by omega, by omega, by go_num, kx5, kt5, kA5, by rw [HTK.out]; exact q1, hr1.mono (fun b hb => .inl hb) kD, hr2.mono (fun b hb => .inl hb) kD, hr3.mono (fun b hb => .inl hb) kD, (fun b hb => hb.elim (fun h => hDB b h) (fun h => by have := (fr.blk b h).1; omega)), (fun e => q4 gA e rfl), hrF.mono (fun b hb => .inl hb) kD⟩
        case measure => simp [intOf]; omega

       ·refine wanted_pos (by kernel_rfl) ?_
        go_simp
        clear hHeld
        refine hK.out _ _ ?_ (fun hHeld => ?_)
        ·exact HS.out _ (below_lit _ _ bb _)
        clear hK K
        try conv => arg 8; simp only [Act.put, List.setIfInBounds_toArray, List.set_cons_zero, List.set_cons_succ]
        have er := Ow.empty 3 1 W0 wr.heap.size bb.size
        replace bb := below_lit _ _ bb (.cells #[] 3)
        generalize W0.alloc (.cells #[] 3) = W1 at *
        refine wpAnyH_ready (rs := [1, 16]) (by kernel_rfl) (by simp) ?_
        refine AllReadyH.cons (by simp only [List.getElem?_toArray]; rfl) (fun K hK => ?_) (AllReadyH.cons (by simp only [List.getElem?_toArray]; rfl) (fun K hK => ?_) AllReadyH.nil)
        ·have yL := cell_call yA bb
         refine wanted_pos (by kernel_rfl) ?_
         go_simp
         clear hHeld
         refine hK.out _ _ ?_ (fun hHeld => ?_)
         ·exact HS.out _ bb
         clear hK K
         try conv => arg 8; simp only [Act.put, List.setIfInBounds_toArray, List.set_cons_zero, List.set_cons_succ]
         clear yL
         refine wpAnyH_ready (rs := [16]) (by kernel_rfl) (by simp) ?_
         refine AllReadyH.cons (by simp only [List.getElem?_toArray]; rfl) (fun K hK => ?_) AllReadyH.nil
         clear hHeld
         refine appStep elt_int (by kernel_rfl) _ _ rfl W1 wr.heap.size _ _ _ [] _ _ _ (ic (row.take 8)) (by rfl) (by rfl) er HML.out (HMR.out _ bb) (ic_one _) (by omega) bb.size ?_
         intro Ar cr2 W2 fr hg hb hat
         rw [List.nil_append, Nat.zero_add] at fr
         rw [Nat.zero_add]
         refine hK.out _ _ ?_ (fun hHeld => ?_)
         ·exact HS.out _ (bb.trans hb)
         clear hK K
         try conv => arg 8; simp only [Act.put, List.setIfInBounds_toArray, List.set_cons_zero, List.set_cons_succ]
         replace bb := bb.trans hb
         clear er hg hb hat
         refine wpAnyH_ready (rs := [17]) (by kernel_rfl) (by simp) ?_
         refine AllReadyH.cons (by simp only [List.getElem?_toArray]; rfl) (fun K hK => ?_) AllReadyH.nil
         refine wanted_pos (by kernel_rfl) ?_
         go_simp
         clear hHeld
         refine hK.out _ _ ?_ (fun hHeld => ?_)
         ·exact HS.out _ (below_lit _ _ bb _)
         clear hK K
         try conv => arg 8; simp only [Act.put, List.setIfInBounds_toArray, List.set_cons_zero, List.set_cons_succ]
         have how := (HFW.out.ow.call bb).alloc (.cells #[.slice Ar m cr2] 23)
         have hnw := news_new W2 [.slice Ar m cr2] 23
         have hs2 : w2.heap.size ≤ (W2.alloc (.cells #[.slice Ar m cr2] 23)).heap.size := by rw [World.size_alloc]; have := bb.size; omega
         have bb3 := below_lit _ _ bb (.cells #[.slice Ar m cr2] 23)
         refine wpAnyH_ready (rs := [18]) (by kernel_rfl) (by simp) ?_
         refine AllReadyH.cons (by simp only [List.getElem?_toArray]; rfl) (fun K hK => ?_) AllReadyH.nil
         clear hHeld
         refine appStep elt_row (by kernel_rfl) _ _ rfl (W2.alloc (.cells #[.slice Ar m cr2] 23)) w2.heap.size _ _ _ css.flatten _ 1 1 [.slice Ar m cr2] (by rfl) (by rfl) how rfl hnw (by simp [Value.oneCell']) (by omega) hs2 ?_
         intro A' c' W4 ho4 hg4 hb4 hat4
         have hgAl : gA < wr.heap.size := kA.lt
         obtain ⟨q1, q2, q3, q4⟩ := HFW.out.push hBw hgB hgAl hAg bb fr ho4 hg4 hb4 hat4 (i := 2) (.slice A' (i + 1) c')
         have nA : ∀ b, b < w2.heap.size → A.map (·.block) ≠ some b := fun b h1 h2 => by have := (HFW.out.ow.blk b h2).1; omega
         have kA4 : Bk W4 gA 38 #[.slice A1 m1 c1, .slice AF nF cF, .slice A i c, .slice A2 m2 c2, .slice A3 m3 c3] := (q3 gA hgAl hAg).trans kA
         have yA4 := box_cells kA4 2 rfl
         have fA4 := kA4.frozen 2
         refine hK.out _ _ ?_ (fun hHeld => ?_)
         ·exact ⟨(World.cell?_of_block (a := ⟨gx, 2, none⟩) (q3 gx kx.lt (nA gx hg1))).trans y2, (World.cell?_of_block (a := ⟨bf, of' + i, none⟩) (q3 bf (by omega) (nA bf (by omega)))).trans x0⟩
         clear hK K
         try conv => arg 8; simp only [Act.put, List.setIfInBounds_toArray, List.set_cons_zero, List.set_cons_succ]
         refine tkB 19 (v := ?_) (by assumption) ?_ ?_
         rotate_left 1
         ·intro w hSw; (try dsimp only at hSw); go_simp; try with_reducible rfl
         refine wpAnyH_ready (rs := [20]) (by kernel_rfl) (by simp) ?_
         refine AllReadyH.cons (by simp only [List.getElem?_toArray]; rfl) (fun K hK => ?_) AllReadyH.nil
         refine wanted_pos (by kernel_rfl) ?_
         go_simp
         clear hHeld
         refine hK.out _ _ ?_ (fun hHeld => ?_)
         ·exact ⟨(World.cell?_of_block (a := ⟨gx, 2, none⟩) (q2 gx kx.lt (nA gx hg1) (by omega))).trans y2, (World.cell?_of_block (a := ⟨bf, of' + i, none⟩) (q2 bf (by omega) (nA bf (by omega)) (by omega))).trans x0⟩
         clear hK K
         try conv => arg 8; simp only [Act.put, List.setIfInBounds_toArray, List.set_cons_zero, List.set_cons_succ]
         refine wpAnyH_done (by kernel_rfl) ?_ _
         go_wp2_with fail
         have kx5 : Bk (W4.setCell ⟨gA, 2, none⟩ (.slice A' (i + 1) c')) gx 38 #[.slice v.ca v.cn v.cc, .slice v.fa v.fn v.fc, .slice v.ba v.bn v.bc, .slice v.ea v.en v.ec, .slice v.ga v.gn v.gc] := (q2 gx kx.lt (nA gx hg1) (by omega)).trans kx
         have kt5 : Bk (W4.setCell ⟨gA, 2, none⟩ (.slice A' (i + 1) c')) gt 38 #[.slice none 0 0, .slice none 0 0, .slice none 0 0, .slice none 0 0, .slice none 0 0] := (q2 gt kt.lt (nA gt hg2) (by omega)).trans kt
         have kA5 := kA4.set_ 2 (.slice A' (i + 1) c')
         have kD : Kept D wr (W4.setCell ⟨gA, 2, none⟩ (.slice A' (i + 1) c')) := fun b hd => q2 b (HFW.out.dl b hd).1 (HFW.out.dl b hd).2.1 (HFW.out.dl b hd).2.2
         go_wp2
         go_roundw
         case rel => exact ⟨i + 1, A', c', _, (fun b => D b ∨ Ar.map (·.block) = some b), by omega, by omega, by go_num, kx5, kt5, kA5, by rw [HTK.out]; exact q1, hr1.mono (fun b hb => .inl hb) kD, hr2.mono (fun b hb => .inl hb) kD, hr3.mono (fun b hb => .inl hb) kD, (fun b hb => hb.elim (fun h => hDB b h) (fun h => by have := (fr.blk b h).1; omega)), (fun e => q4 gA e rfl), hrF.mono (fun b hb => .inl hb) kD⟩
         case measure => simp [intOf]; omega

        ·clear hHeld
         refine appStep elt_int (by kernel_rfl) _ _ rfl W1 wr.heap.size _ _ _ [] _ _ _ (ic (row.take 8)) (by rfl) (by rfl) er HML.out (HMR.out _ bb) (ic_one _) (by omega) bb.size ?_
         intro Ar cr2 W2 fr hg hb hat
         rw [List.nil_append, Nat.zero_add] at fr
         rw [Nat.zero_add]
         refine hK.out _ _ ?_ (fun hHeld => ?_)
         ·exact HS.out _ (bb.trans hb)
         clear hK K
         try conv => arg 8; simp only [Act.put, List.setIfInBounds_toArray, List.set_cons_zero, List.set_cons_succ]
         replace bb := bb.trans hb
         clear er hg hb hat
         refine wpAnyH_ready (rs := [1, 17]) (by kernel_rfl) (by simp) ?_
         refine AllReadyH.cons (by simp only [List.getElem?_toArray]; rfl) (fun K hK => ?_) (AllReadyH.cons (by simp only [List.getElem?_toArray]; rfl) (fun K hK => ?_) AllReadyH.nil)
         ·have yL := cell_call yA bb
          refine wanted_pos (by kernel_rfl) ?_
          go_simp
          clear hHeld
          refine hK.out _ _ ?_ (fun hHeld => ?_)
          ·exact HS.out _ bb
          clear hK K
          try conv => arg 8; simp only [Act.put, List.setIfInBounds_toArray, List.set_cons_zero, List.set_cons_succ]
          clear yL
          refine wpAnyH_ready (rs := [17]) (by kernel_rfl) (by simp) ?_
          refine AllReadyH.cons (by simp only [List.getElem?_toArray]; rfl) (fun K hK => ?_) AllReadyH.nil
          refine wanted_pos (by kernel_rfl) ?_
          go_simp
          clear hHeld
          refine hK.out _ _ ?_ (fun hHeld => ?_)
          ·exact HS.out _ (below_lit _ _ bb _)
          clear hK K
          try conv => arg 8; simp only [Act.put, List.setIfInBounds_toArray, List.set_cons_zero, List.set_cons_succ]
          have how := (HFW.out.ow.call bb).alloc (.cells #[.slice Ar m cr2] 23)
          have hnw := news_new W2 [.slice Ar m cr2] 23
          have hs2 : w2.heap.size ≤ (W2.alloc (.cells #[.slice Ar m cr2] 23)).heap.size := by rw [World.size_alloc]; have := bb.size; omega
          have bb3 := below_lit _ _ bb (.cells #[.slice Ar m cr2] 23)
          refine wpAnyH_ready (rs := [18]) (by kernel_rfl) (by simp) ?_
          refine AllReadyH.cons (by simp only [List.getElem?_toArray]; rfl) (fun K hK => ?_) AllReadyH.nil
          clear hHeld
          refine appStep elt_row (by kernel_rfl) _ _ rfl (W2.alloc (.cells #[.slice Ar m cr2] 23)) w2.heap.size _ _ _ css.flatten _ 1 1 [.slice Ar m cr2] (by rfl) (by rfl) how rfl hnw (by simp [Value.oneCell']) (by omega) hs2 ?_
          intro A' c' W4 ho4 hg4 hb4 hat4
          have hgAl : gA < wr.heap.size := kA.lt
          obtain ⟨q1, q2, q3, q4⟩ := HFW.out.push hBw hgB hgAl hAg bb fr ho4 hg4 hb4 hat4 (i := 2) (.slice A' (i + 1) c')
          have nA : ∀ b, b < w2.heap.size → A.map (·.block) ≠ some b := fun b h1 h2 => by have := (HFW.out.ow.blk b h2).1; omega
          have kA4 : Bk W4 gA 38 #[.slice A1 m1 c1, .slice AF nF cF, .slice A i c, .slice A2 m2 c2, .slice A3 m3 c3] := (q3 gA hgAl hAg).trans kA
          have yA4 := box_cells kA4 2 rfl
          have fA4 := kA4.frozen 2
          refine hK.out _ _ ?_ (fun hHeld => ?_)
          ·exact ⟨(World.cell?_of_block (a := ⟨gx, 2, none⟩) (q3 gx kx.lt (nA gx hg1))).trans y2, (World.cell?_of_block (a := ⟨bf, of' + i, none⟩) (q3 bf (by omega) (nA bf (by omega)))).trans x0⟩
          clear hK K
          try conv => arg 8; simp only [Act.put, List.setIfInBounds_toArray, List.set_cons_zero, List.set_cons_succ]
          refine tkB 19 (v := ?_) (by assumption) ?_ ?_
          rotate_left 1
          ·intro w hSw; (try dsimp only at hSw); go_simp; try with_reducible rfl
          refine wpAnyH_ready (rs := [20]) (by kernel_rfl) (by simp) ?_
          refine AllReadyH.cons (by simp only [List.getElem?_toArray]; rfl) (fun K hK => ?_) AllReadyH.nil
          refine wanted_pos (by kernel_rfl) ?_
          go_simp
          clear hHeld
          refine hK.out _ _ ?_ (fun hHeld => ?_)
          ·exact ⟨(World.cell?_of_block (a := ⟨gx, 2, none⟩) (q2 gx kx.lt (nA gx hg1) (by omega))).trans y2, (World.cell?_of_block (a := ⟨bf, of' + i, none⟩) (q2 bf (by omega) (nA bf (by omega)) (by omega))).trans x0⟩
          clear hK K
          try conv => arg 8; simp only [Act.put, List.setIfInBounds_toArray, List.set_cons_zero, List.set_cons_succ]
          refine wpAnyH_done (by kernel_rfl) ?_ _
          go_wp2_with fail
          have kx5 : Bk (W4.setCell ⟨gA, 2, none⟩ (.slice A' (i + 1) c')) gx 38 #[.slice v.ca v.cn v.cc, .slice v.fa v.fn v.fc, .slice v.ba v.bn v.bc, .slice v.ea v.en v.ec, .slice v.ga v.gn v.gc] := (q2 gx kx.lt (nA gx hg1) (by omega)).trans kx
          have kt5 : Bk (W4.setCell ⟨gA, 2, none⟩ (.slice A' (i + 1) c')) gt 38 #[.slice none 0 0, .slice none 0 0, .slice none 0 0, .slice none 0 0, .slice none 0 0] := (q2 gt kt.lt (nA gt hg2) (by omega)).trans kt
          have kA5 := kA4.set_ 2 (.slice A' (i + 1) c')
          have kD : Kept D wr (W4.setCell ⟨gA, 2, none⟩ (.slice A' (i + 1) c')) := fun b hd => q2 b (HFW.out.dl b hd).1 (HFW.out.dl b hd).2.1 (HFW.out.dl b hd).2.2
          go_wp2
          go_roundw
          case rel => exact ⟨i + 1, A', c', _, (fun b => D b ∨ Ar.map (·.block) = some b), by omega, by omega, by go_num, kx5, kt5, kA5, by rw [HTK.out]; exact q1, hr1.mono (fun b hb => .inl hb) kD, hr2.mono (fun b hb => .inl hb) kD, hr3.mono (fun b hb => .inl hb) kD, (fun b hb => hb.elim (fun h => hDB b h) (fun h => by have := (fr.blk b h).1; omega)), (fun e => q4 gA e rfl), hrF.mono (fun b hb => .inl hb) kD⟩
          case measure => simp [intOf]; omega

         ·refine wanted_pos (by kernel_rfl) ?_
          go_simp
          clear hHeld
          refine hK.out _ _ ?_ (fun hHeld => ?_)
          ·exact HS.out _ (below_lit _ _ bb _)
          clear hK K
          try conv => arg 8; simp only [Act.put, List.setIfInBounds_toArray, List.set_cons_zero, List.set_cons_succ]
          have how := (HFW.out.ow.call bb).alloc (.cells #[.slice Ar m cr2] 23)
          have hnw := news_new W2 [.slice Ar m cr2] 23
          have hs2 : w2.heap.size ≤ (W2.alloc (.cells #[.slice Ar m cr2] 23)).heap.size := by rw [World.size_alloc]; have := bb.size; omega
          have bb3 := below_lit _ _ bb (.cells #[.slice Ar m cr2] 23)
          refine wpAnyH_ready (rs := [1]) (by kernel_rfl) (by simp) ?_
          refine AllReadyH.cons (by simp only [List.getElem?_toArray]; rfl) (fun K hK => ?_) AllReadyH.nil
          have yL := cell_call yA bb3
          refine wanted_pos (by kernel_rfl) ?_
          go_simp
          clear hHeld
          refine hK.out _ _ ?_ (fun hHeld => ?_)
          ·exact HS.out _ bb3
          clear hK K
          try conv => arg 8; simp only [Act.put, List.setIfInBounds_toArray, List.set_cons_zero, List.set_cons_succ]
          clear yL
          refine wpAnyH_ready (rs := [18]) (by kernel_rfl) (by simp) ?_
          refine AllReadyH.cons (by simp only [List.getElem?_toArray]; rfl) (fun K hK => ?_) AllReadyH.nil
          clear hHeld
          refine appStep elt_row (by kernel_rfl) _ _ rfl (W2.alloc (.cells #[.slice Ar m cr2] 23)) w2.heap.size _ _ _ css.flatten _ 1 1 [.slice Ar m cr2] (by rfl) (by rfl) how rfl hnw (by simp [Value.oneCell']) (by omega) hs2 ?_
          intro A' c' W4 ho4 hg4 hb4 hat4
          have hgAl : gA < wr.heap.size := kA.lt
          obtain ⟨q1, q2, q3, q4⟩ := HFW.out.push hBw hgB hgAl hAg bb fr ho4 hg4 hb4 hat4 (i := 2) (.slice A' (i + 1) c')
          have nA : ∀ b, b < w2.heap.size → A.map (·.block) ≠ some b := fun b h1 h2 => by have := (HFW.out.ow.blk b h2).1; omega
          have kA4 : Bk W4 gA 38 #[.slice A1 m1 c1, .slice AF nF cF, .slice A i c, .slice A2 m2 c2, .slice A3 m3 c3] := (q3 gA hgAl hAg).trans kA
          have yA4 := box_cells kA4 2 rfl
          have fA4 := kA4.frozen 2
          refine hK.out _ _ ?_ (fun hHeld => ?_)
          ·exact ⟨(World.cell?_of_block (a := ⟨gx, 2, none⟩) (q3 gx kx.lt (nA gx hg1))).trans y2, (World.cell?_of_block (a := ⟨bf, of' + i, none⟩) (q3 bf (by omega) (nA bf (by omega)))).trans x0⟩
          clear hK K
          try conv => arg 8; simp only [Act.put, List.setIfInBounds_toArray, List.set_cons_zero, List.set_cons_succ]
          refine tkB 19 (v := ?_) (by assumption) ?_ ?_
          rotate_left 1
          ·intro w hSw; (try dsimp only at hSw); go_simp; try with_reducible rfl
          refine wpAnyH_ready (rs := [20]) (by kernel_rfl) (by simp) ?_
          refine AllReadyH.cons (by simp only [List.getElem?_toArray]; rfl) (fun K hK => ?_) AllReadyH.nil
          refine wanted_pos (by kernel_rfl) ?_
          go_simp
          clear hHeld
          refine hK.out _ _ ?_ (fun hHeld => ?_)
          ·exact ⟨(World.cell?_of_block (a := ⟨gx, 2, none⟩) (q2 gx kx.lt (nA gx hg1) (by omega))).trans y2, (World.cell?_of_block (a := ⟨bf, of' + i, none⟩) (q2 bf (by omega) (nA bf (by omega)) (by omega))).trans x0⟩
          clear hK K
          try conv => arg 8; simp only [Act.put, List.setIfInBounds_toArray, List.set_cons_zero, List.set_cons_succ]
          refine wpAnyH_done (by kernel_rfl) ?_ _
          go_wp2_with fail
          have kx5 : Bk (W4.setCell ⟨gA, 2, none⟩ (.slice A' (i + 1) c')) gx 38 #[.slice v.ca v.cn v.cc, .slice v.fa v.fn v.fc, .slice v.ba v.bn v.bc, .slice v.ea v.en v.ec, .slice v.ga v.gn v.gc] := (q2 gx kx.lt (nA gx hg1) (by omega)).trans kx
          have kt5 : Bk (W4.setCell ⟨gA, 2, none⟩ (.slice A' (i + 1) c')) gt 38 #[.slice none 0 0, .slice none 0 0, .slice none 0 0, .slice none 0 0, .slice none 0 0] := (q2 gt kt.lt (nA gt hg2) (by omega)).trans kt
          have kA5 := kA4.set_ 2 (.slice A' (i + 1) c')
          have kD : Kept D wr (W4.setCell ⟨gA, 2, none⟩ (.slice A' (i + 1) c')) := fun b hd => q2 b (HFW.out.dl b hd).1 (HFW.out.dl b hd).2.1 (HFW.out.dl b hd).2.2
          go_wp2
          go_roundw
          case rel => exact ⟨i + 1, A', c', _, (fun b => D b ∨ Ar.map (·.block) = some b), by omega, by omega, by go_num, kx5, kt5, kA5, by rw [HTK.out]; exact q1, hr1.mono (fun b hb => .inl hb) kD, hr2.mono (fun b hb => .inl hb) kD, hr3.mono (fun b hb => .inl hb) kD, (fun b hb => hb.elim (fun h => hDB b h) (fun h => by have := (fr.blk b h).1; omega)), (fun e => q4 gA e rfl), hrF.mono (fun b hb => .inl hb) kD⟩
          case measure => simp [intOf]; omega

      ·have t8 : ¬ (i : Int) < 8 := by omega
       have inn : (i : Int) < (v.bn : Int) := by omega
       have htk : a.back.take i = a.back.take 8 := by rw [show i = 8 by omega]
       rw [htk] at hfw
       have hrB := hfw.rd2
       have hdB := hfw.ow.hd
       have bl5 := hfw.bl
       have hDl : ∀ b, (D b ∨ A.map (·.block) = some b) → b < wr.heap.size := fun b hb => by
        rcases hb with hb | hb
        ·exact (hfw.dl b hb).1
        ·exact (hfw.ow.blk b hb).2.1
       have hDp : ∀ b, (D b ∨ A.map (·.block) = some b) → Plain wr b := fun b hb => by
        rcases hb with hb | hb
        ·exact hfw.pl b hb
        ·exact hfw.ow.plain hb
       have hDt : ∀ b, (D b ∨ A.map (·.block) = some b) → b ≠ gt := fun b hb => by
        rcases hb with hb | hb
        ·have := hDB b hb; omega
        ·have := (hfw.ow.blk b hb).1; omega
       have t0 := box_cells kt 0 rfl
       have tf0 := kt.frozen 0
       have y0 := box_cells kA 0 rfl
       have t1 := box_cells kt 1 rfl
       have tf1 := kt.frozen 1
       have y1 := box_cells kA 1 rfl
       have t2 := box_cells kt 2 rfl
       have tf2 := kt.frozen 2
       have y2 := box_cells kA 2 rfl
       have t3 := box_cells kt 3 rfl
       have tf3 := kt.frozen 3
       have y3 := box_cells kA 3 rfl
       have t4 := box_cells kt 4 rfl
       have tf4 := kt.frozen 4
       have y4 := box_cells kA 4 rfl
       have hkS := store5_bk kt (.slice A1 m1 c1) (.slice AF nF cF) (.slice A i c) (.slice A2 m2 c2) (.slice A3 m3 c3)
       have hbS := store5_below (w := w) (g := gt) (below_call b1 bl5) (by omega) (.slice A1 m1 c1) (.slice AF nF cF) (.slice A i c) (.slice A2 m2 c2) (.slice A3 m3 c3)
       have hk0 := store5_kept (S := fun b => D b ∨ A.map (·.block) = some b) (W := wr) gt (.slice A1 m1 c1) (.slice AF nF cF) (.slice A i c) (.slice A2 m2 c2) (.slice A3 m3 c3)
       have hDg : ∀ b, (D b ∨ A.map (·.block) = some b) → w.heap.size ≤ b := fun b hb => by
        rcases hb with hb | hb
        ·have := hDB b hb; omega
        ·have := (hfw.ow.blk b hb).1; omega
       have HK := Lib.hid (few_isA (a := a) hDg hDp hDl (fun b hb => hk0.1 b ⟨hb, hDt b hb⟩) (Nat.le_of_eq hk0.2.symm) (hr1.mono (fun b h => .inl h) (Kept.refl _ _)) (hrF.mono (fun b h => .inl h) (Kept.refl _ _)) hrB (hr2.mono (fun b h => .inl h) (Kept.refl _ _)) (hr3.mono (fun b h => .inl h) (Kept.refl _ _)) HQ1.out HdF.out hdB HQ2.out HQ3.out)
       unfold store5 at hkS hbS HK
       have HBS := Lib.hid hbS
       clear hbS hk0 hDp hDl hDt hDg hdB hrB hfw HFW hr1 hr2 hr3 hrF hDB htk bwr hcapi hlt kx kt kA hBw hAg hin hi8 bl5
       clear HV HD1 HD2 HD3 HD4 HD5 m1a m1b m1z hm1c hm1d HL1 HR1 m2a m2b m2z hm2c hm2d HL2 HR2 m3a m3b m3z hm3c hm3d HL3 HR3 HM1 HM2 HM3 HH hww HE hg2 hgt hg1 hD0 hDB0 e1 e2 e3 bb b1 hbl hgB HQ1 HQ2 HQ3 HdF
       repeat (first | go_values | go_skip | go_guarded | go_step | go_upon)
       have r0 := box_cells hkS 0 rfl
       have r1 := box_cells hkS 1 rfl
       have r2 := box_cells hkS 2 rfl
       have r3 := box_cells hkS 3 rfl
       have r4 := box_cells hkS 4 rfl
       refine bodyPost_ret (v := .agg #[.slice A1 m1 c1, .slice AF nF cF, .slice A i c, .slice A2 m2 c2, .slice A3 m3 c3]) (by simp [results, Tryd.results22, go_sem, r0, r1, r2, r3, r4]) rfl ⟨⟨A1, m1, c1, AF, nF, cF, A, i, c, A2, m2, c2, A3, m3, c3⟩, rfl, HK.out, HBS.out⟩

     ·have inn : ¬ (i : Int) < (v.bn : Int) := by omega
      have htk : a.back.take i = a.back.take 8 := by rw [List.take_of_length_le (show a.back.length ≤ 8 by have h1 := HH.out.2.t.len; change _ = v.bn at h1; omega), List.take_of_length_le (show a.back.length ≤ i by have h1 := HH.out.2.t.len; change _ = v.bn at h1; omega)]
      rw [htk] at hfw
      have hrB := hfw.rd2
      have hdB := hfw.ow.hd
      have bl5 := hfw.bl
      have hDl : ∀ b, (D b ∨ A.map (·.block) = some b) → b < wr.heap.size := fun b hb => by
       rcases hb with hb | hb
       ·exact (hfw.dl b hb).1
       ·exact (hfw.ow.blk b hb).2.1
      have hDp : ∀ b, (D b ∨ A.map (·.block) = some b) → Plain wr b := fun b hb => by
       rcases hb with hb | hb
       ·exact hfw.pl b hb
       ·exact hfw.ow.plain hb
      have hDt : ∀ b, (D b ∨ A.map (·.block) = some b) → b ≠ gt := fun b hb => by
       rcases hb with hb | hb
       ·have := hDB b hb; omega
       ·have := (hfw.ow.blk b hb).1; omega
      have t0 := box_cells kt 0 rfl
      have tf0 := kt.frozen 0
      have y0 := box_cells kA 0 rfl
      have t1 := box_cells kt 1 rfl
      have tf1 := kt.frozen 1
      have y1 := box_cells kA 1 rfl
      have t2 := box_cells kt 2 rfl
      have tf2 := kt.frozen 2
      have y2 := box_cells kA 2 rfl
      have t3 := box_cells kt 3 rfl
      have tf3 := kt.frozen 3
      have y3 := box_cells kA 3 rfl
      have t4 := box_cells kt 4 rfl
      have tf4 := kt.frozen 4
      have y4 := box_cells kA 4 rfl
      have hkS := store5_bk kt (.slice A1 m1 c1) (.slice AF nF cF) (.slice A i c) (.slice A2 m2 c2) (.slice A3 m3 c3)
      have hbS := store5_below (w := w) (g := gt) (below_call b1 bl5) (by omega) (.slice A1 m1 c1) (.slice AF nF cF) (.slice A i c) (.slice A2 m2 c2) (.slice A3 m3 c3)
      have hk0 := store5_kept (S := fun b => D b ∨ A.map (·.block) = some b) (W := wr) gt (.slice A1 m1 c1) (.slice AF nF cF) (.slice A i c) (.slice A2 m2 c2) (.slice A3 m3 c3)
      have hDg : ∀ b, (D b ∨ A.map (·.block) = some b) → w.heap.size ≤ b := fun b hb => by
       rcases hb with hb | hb
       ·have := hDB b hb; omega
       ·have := (hfw.ow.blk b hb).1; omega
      have HK := Lib.hid (few_isA (a := a) hDg hDp hDl (fun b hb => hk0.1 b ⟨hb, hDt b hb⟩) (Nat.le_of_eq hk0.2.symm) (hr1.mono (fun b h => .inl h) (Kept.refl _ _)) (hrF.mono (fun b h => .inl h) (Kept.refl _ _)) hrB (hr2.mono (fun b h => .inl h) (Kept.refl _ _)) (hr3.mono (fun b h => .inl h) (Kept.refl _ _)) HQ1.out HdF.out hdB HQ2.out HQ3.out)
      unfold store5 at hkS hbS HK
      have HBS := Lib.hid hbS
      clear hbS hk0 hDp hDl hDt hDg hdB hrB hfw HFW hr1 hr2 hr3 hrF hDB htk bwr hcapi hlt kx kt kA hBw hAg hin hi8 bl5
      clear HV HD1 HD2 HD3 HD4 HD5 m1a m1b m1z hm1c hm1d HL1 HR1 m2a m2b m2z hm2c hm2d HL2 HR2 m3a m3b m3z hm3c hm3d HL3 HR3 HM1 HM2 HM3 HH hww HE hg2 hgt hg1 hD0 hDB0 e1 e2 e3 bb b1 hbl hgB HQ1 HQ2 HQ3 HdF
      repeat (first | go_values | go_skip | go_guarded | go_step | go_upon)
      have r0 := box_cells hkS 0 rfl
      have r1 := box_cells hkS 1 rfl
      have r2 := box_cells hkS 2 rfl
      have r3 := box_cells hkS 3 rfl
      have r4 := box_cells hkS 4 rfl
      refine bodyPost_ret (v := .agg #[.slice A1 m1 c1, .slice AF nF cF, .slice A i c, .slice A2 m2 c2, .slice A3 m3 c3]) (by simp [results, Tryd.results22, go_sem, r0, r1, r2, r3, r4]) rfl ⟨⟨A1, m1, c1, AF, nF, cF, A, i, c, A2, m2, c2, A3, m3, c3⟩, rfl, HK.out, HBS.out⟩






theorem few_c (v : AV) (a : Au) (w : World) (h : IsA w (lo w.heap.size) v a) :
  Calls Tryd.prog 22 #[.agg v.cells] w fun e w' => ∃ v' : AV, e = .returned (.agg v'.cells) ∧ IsA w' (fun b => w.heap.size ≤ b ∧ b < w'.heap.size) v' (fewA a) ∧ Below w.heap.size w w' :=
 (fewP_c v a w h).mono fun _ _ ⟨v', h1, h2, h3⟩ => ⟨v', h1, h2.mono (fun _ hb => ⟨hb.1, hb.2.1⟩) (Kept.refl _ _), h3⟩

end Go.Proofs.YtgcmedkaadagmaaDoor
