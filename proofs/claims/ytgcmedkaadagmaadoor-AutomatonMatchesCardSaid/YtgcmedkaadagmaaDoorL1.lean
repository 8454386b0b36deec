/- Walks: the laws' font. -/
import Derived.Test.YtgcmedkaadagmaaDoorV20
namespace Go.Proofs.YtgcmedkaadagmaaDoor
open Go.RowKit Go.Shelf Go.Maps

def gl0 : Gly := ⟨false, []⟩
def fontF (n : Nat) (rs : List Rul) : Fnt := ⟨List.replicate n gl0, [⟨4, false, rs⟩]⟩
theorem fontF_lk (n : Nat) (rs : List Rul) (k : Int) : lkAt (fontF n rs) k = if k = 0 then some ⟨4, false, rs⟩ else none := by
 unfold lkAt fontF
 by_cases h : k < 0
 ·rw [if_pos h, if_neg (by omega)]
 ·rw [if_neg h]
  obtain ⟨j, rfl⟩ : ∃ j : Nat, k = j := ⟨k.toNat, by omega⟩
  rw [Int.toNat_natCast]
  cases j with
  | zero => rfl
  | succ j => rw [if_neg (by omega)]; rfl
theorem fontF_len (n : Nat) (rs : List Rul) : (fontF n rs).gly.length = n := by simp [fontF]
abbrev zGly : Value := .agg #[.string ⟨#[]⟩, .int .i64 0, .bool false, .slice none 0 0, .slice none 0 0, .slice none 0 0, .slice none 0 0, .slice none 0 0, .slice none 0 0]
theorem elt_gly : ElT 25 85 9 176 zGly := ⟨Tryd.underlying25, by kernel_rfl, rfl, by decide, by decide⟩
theorem made_at (z : Array Value) (n k i j : Nat) (hz : z.size = k) (hi : i < n) (hj : j < k) : (madeCells z (n * k)).toList[i * k + j]? = z[j]? := by
 have hlt : i * k + j < n * k := by
  have : (i + 1) * k ≤ n * k := Nat.mul_le_mul_right k (by omega)
  rw [Nat.add_mul] at this; omega
 unfold madeCells
 rw [Array.getElem?_toList, Array.getElem?_map]
 simp only [Array.getElem?_range, hlt, if_true, Option.map_some]
 rw [hz, Nat.mul_comm i k, Nat.mul_add_mod, Nat.mod_eq_of_lt hj]
 have hj2 : j < z.size := by omega
 rw [Array.getElem?_eq_getElem hj2, getElem!_pos z j hj2]
theorem rdG_made {w : World} {base n c : Nat} {A : Option Addr} (h : Ow 85 9 w base A n c (madeCells zGly.cells (n * 9)).toList) : RdG w (lo w.heap.size) A n (List.replicate n gl0) := by
 refine ⟨by simp, fun hn => ?_⟩
 obtain ⟨g, rfl, hb, hlt⟩ := h.form hn
 refine ⟨g, 0, rfl, hlt, fun i x hx => ?_⟩
 have hi : i < n := by have := (List.getElem?_eq_some_iff.1 hx).1; simpa using this
 have hxe : x = gl0 := by
  rw [List.getElem?_replicate, if_pos hi] at hx
  injection hx with hx; exact hx.symm
 subst hxe
 refine ⟨[.string ⟨#[]⟩, .int .i64 0, .bool false, .slice none 0 0, .slice none 0 0, .slice none 0 0, .slice none 0 0, .slice none 0 0, .slice none 0 0], ⟨_, _, _, _, _, none, 0, 0, _, _, rfl, SlE.nil, ⟨Nat.le_refl _, by omega⟩⟩, fun j v hv => ?_⟩
 rw [Nat.zero_add]
 have hj : j < 9 := (List.getElem?_eq_some_iff.1 hv).1
 refine h.cell ?_
 rw [made_at _ n 9 i j rfl hi hj]
 rw [← hv]
 match j, hj with
 | 0, _ => rfl
 | 1, _ => rfl
 | 2, _ => rfl
 | 3, _ => rfl
 | 4, _ => rfl
 | 5, _ => rfl
 | 6, _ => rfl
 | 7, _ => rfl
 | 8, _ => rfl
/-- Nine cells stored. -/
def store9 (W : World) (g : Nat) (a b c d e p q r s : Value) : World := ((((((((W.setCell ⟨g, 0, none⟩ a).setCell ⟨g, 1, none⟩ b).setCell ⟨g, 2, none⟩ c).setCell ⟨g, 3, none⟩ d).setCell ⟨g, 4, none⟩ e).setCell ⟨g, 5, none⟩ p).setCell ⟨g, 6, none⟩ q).setCell ⟨g, 7, none⟩ r).setCell ⟨g, 8, none⟩ s
theorem store9_bk {W : World} {g t : Nat} {a0 b0 c0 d0 e0 p0 q0 r0 s0 : Value} (h : Bk W g t #[a0, b0, c0, d0, e0, p0, q0, r0, s0]) (a b c d e p q r s : Value) : Bk (store9 W g a b c d e p q r s) g t #[a, b, c, d, e, p, q, r, s] := by
 have h0 : Bk (W.setCell ⟨g, 0, none⟩ a) g t #[a, b0, c0, d0, e0, p0, q0, r0, s0] := h.set_ 0 a
 have h1 : Bk ((W.setCell ⟨g, 0, none⟩ a).setCell ⟨g, 1, none⟩ b) g t #[a, b, c0, d0, e0, p0, q0, r0, s0] := h0.set_ 1 b
 have h2 : Bk (((W.setCell ⟨g, 0, none⟩ a).setCell ⟨g, 1, none⟩ b).setCell ⟨g, 2, none⟩ c) g t #[a, b, c, d0, e0, p0, q0, r0, s0] := h1.set_ 2 c
 have h3 : Bk ((((W.setCell ⟨g, 0, none⟩ a).setCell ⟨g, 1, none⟩ b).setCell ⟨g, 2, none⟩ c).setCell ⟨g, 3, none⟩ d) g t #[a, b, c, d, e0, p0, q0, r0, s0] := h2.set_ 3 d
 have h4 : Bk (((((W.setCell ⟨g, 0, none⟩ a).setCell ⟨g, 1, none⟩ b).setCell ⟨g, 2, none⟩ c).setCell ⟨g, 3, none⟩ d).setCell ⟨g, 4, none⟩ e) g t #[a, b, c, d, e, p0, q0, r0, s0] := h3.set_ 4 e
 have h5 : Bk ((((((W.setCell ⟨g, 0, none⟩ a).setCell ⟨g, 1, none⟩ b).setCell ⟨g, 2, none⟩ c).setCell ⟨g, 3, none⟩ d).setCell ⟨g, 4, none⟩ e).setCell ⟨g, 5, none⟩ p) g t #[a, b, c, d, e, p, q0, r0, s0] := h4.set_ 5 p
 have h6 : Bk (((((((W.setCell ⟨g, 0, none⟩ a).setCell ⟨g, 1, none⟩ b).setCell ⟨g, 2, none⟩ c).setCell ⟨g, 3, none⟩ d).setCell ⟨g, 4, none⟩ e).setCell ⟨g, 5, none⟩ p).setCell ⟨g, 6, none⟩ q) g t #[a, b, c, d, e, p, q, r0, s0] := h5.set_ 6 q
 have h7 : Bk ((((((((W.setCell ⟨g, 0, none⟩ a).setCell ⟨g, 1, none⟩ b).setCell ⟨g, 2, none⟩ c).setCell ⟨g, 3, none⟩ d).setCell ⟨g, 4, none⟩ e).setCell ⟨g, 5, none⟩ p).setCell ⟨g, 6, none⟩ q).setCell ⟨g, 7, none⟩ r) g t #[a, b, c, d, e, p, q, r, s0] := h6.set_ 7 r
 have h8 : Bk (((((((((W.setCell ⟨g, 0, none⟩ a).setCell ⟨g, 1, none⟩ b).setCell ⟨g, 2, none⟩ c).setCell ⟨g, 3, none⟩ d).setCell ⟨g, 4, none⟩ e).setCell ⟨g, 5, none⟩ p).setCell ⟨g, 6, none⟩ q).setCell ⟨g, 7, none⟩ r).setCell ⟨g, 8, none⟩ s) g t #[a, b, c, d, e, p, q, r, s] := h7.set_ 8 s
 exact h8
theorem store9_below {B : Nat} {w W : World} {g : Nat} (h : Below B w W) (hg : B ≤ g) (a b c d e p q r s : Value) : Below B w (store9 W g a b c d e p q r s) :=
 ((((((((h.setCell (p := ⟨g, 0, none⟩) hg a).setCell (p := ⟨g, 1, none⟩) hg b).setCell (p := ⟨g, 2, none⟩) hg c).setCell (p := ⟨g, 3, none⟩) hg d).setCell (p := ⟨g, 4, none⟩) hg e).setCell (p := ⟨g, 5, none⟩) hg p).setCell (p := ⟨g, 6, none⟩) hg q).setCell (p := ⟨g, 7, none⟩) hg r).setCell (p := ⟨g, 8, none⟩) hg s
theorem store9_kept (W : World) (g : Nat) (a b c d e p q r s : Value) : (∀ x, x ≠ g → (store9 W g a b c d e p q r s).heap[x]? = W.heap[x]?) ∧ (store9 W g a b c d e p q r s).heap.size = W.heap.size := by
 refine ⟨fun x hx => ?_, by unfold store9; simp⟩
 unfold store9
 rw [Below.heap_setCell _ ⟨g, 8, none⟩ _ x hx, Below.heap_setCell _ ⟨g, 7, none⟩ _ x hx, Below.heap_setCell _ ⟨g, 6, none⟩ _ x hx, Below.heap_setCell _ ⟨g, 5, none⟩ _ x hx, Below.heap_setCell _ ⟨g, 4, none⟩ _ x hx, Below.heap_setCell _ ⟨g, 3, none⟩ _ x hx, Below.heap_setCell _ ⟨g, 2, none⟩ _ x hx, Below.heap_setCell _ ⟨g, 1, none⟩ _ x hx, Below.heap_setCell _ ⟨g, 0, none⟩ _ x hx]

def FontR (w : World) (n : Nat) (rs : List Rul) (e : Ending) (w' : World) : Prop := ∃ f : FV, e = .returned (.agg f.cells) ∧ IsF w' (lo w'.heap.size) f (fontF n rs) ∧ Below w.heap.size w w'
set_option maxRecDepth 100000 in
set_option maxHeartbeats 2000000 in
theorem font_c (n : Nat) (qa : Option Addr) (qn qc : Nat) (rs : List Rul) (w : World) (hR : RdR w (lo w.heap.size) qa qn rs) (hq : Hd qn qc) (hn : n ≤ 100000) :
  Calls Tryd.prog 25 #[.int .i64 (n : Int), .slice qa qn qc] w (FontR w n rs) := by
 have b1 : Below w.heap.size w (w.alloc (.cells #[.int .i64 0, .slice none 0 0, .slice none 0 0, .slice none 0 0, .slice none 0 0, .slice none 0 0, .slice none 0 0, .slice none 0 0, .slice none 0 0] 33)) := (Below.refl _ _).alloc (Nat.le_refl _) _
 have k1 := Bk.new w 33 #[.int .i64 0, .slice none 0 0, .slice none 0 0, .slice none 0 0, .slice none 0 0, .slice none 0 0, .slice none 0 0, .slice none 0 0, .slice none 0 0]
 have hs1 : w.heap.size ≤ (w.alloc (.cells #[.int .i64 0, .slice none 0 0, .slice none 0 0, .slice none 0 0, .slice none 0 0, .slice none 0 0, .slice none 0 0, .slice none 0 0, .slice none 0 0] 33)).heap.size := b1.size
 have n0 : (0 : Int) ≤ (n : Int) := by omega
 have HR := Lib.hid hR
 clear hR
 go_enter Tryd.func25, Tryd.ntmps25
 go_wp2_with (at_make; refine mkG elt_gly rfl _ _ rfl _ w.heap.size n _ _ (by rfl) (by rfl) (by rfl) (by rfl) (by omega) hs1 ?_; intro w5 ho5 hb5 hlt5; have k15 := k1.below hb5 k1.lt; have f5 := (k15.alloc (.cells #[.int .i64 4, .bool false, .slice qa qn qc] 55)).frozen; have z5 := fun i v hv => box_cells (v := v) (k15.alloc (.cells #[.int .i64 4, .bool false, .slice qa qn qc] 55)) i hv; have y0 := z5 0 _ rfl; have y1 := z5 1 _ rfl; have y2 := z5 2 _ rfl; have y3 := z5 3 _ rfl; have y4 := z5 4 _ rfl; have y5 := z5 5 _ rfl; have y6 := z5 6 _ rfl; have y7 := z5 7 _ rfl; have y8 := z5 8 _ rfl; have f0 := f5 0; have f1 := f5 1; have f2 := f5 2; have f3 := f5 3; have f4 := f5 4; have f6 := f5 5; have f7 := f5 6; have f8 := f5 7; have f9 := f5 8; clear z5 f5)
 have hk := store9_bk (k15.alloc (.cells #[.int .i64 4, .bool false, .slice qa qn qc] 55)) (.int .i64 0) (.slice (some ⟨w.heap.size + 1, 0, none⟩) n n) (.slice none 0 0) (.slice (some ⟨w5.heap.size, 0, none⟩) 1 1) (.slice none 0 0) (.slice none 0 0) (.slice none 0 0) (.slice none 0 0) (.slice none 0 0)
 have hbl := store9_below (g := w.heap.size) ((below_call b1 hb5).trans (((Below.refl w5.heap.size w5).alloc (Nat.le_refl _) (.cells #[.int .i64 4, .bool false, .slice qa qn qc] 55)).mono (by have := b1.size; have := hb5.size; omega))) (Nat.le_refl _) (.int .i64 0) (.slice (some ⟨w.heap.size + 1, 0, none⟩) n n) (.slice none 0 0) (.slice (some ⟨w5.heap.size, 0, none⟩) 1 1) (.slice none 0 0) (.slice none 0 0) (.slice none 0 0) (.slice none 0 0) (.slice none 0 0)
 obtain ⟨hkp, hsz⟩ := store9_kept (w5.alloc (.cells #[.int .i64 4, .bool false, .slice qa qn qc] 55)) w.heap.size (.int .i64 0) (.slice (some ⟨w.heap.size + 1, 0, none⟩) n n) (.slice none 0 0) (.slice (some ⟨w5.heap.size, 0, none⟩) 1 1) (.slice none 0 0) (.slice none 0 0) (.slice none 0 0) (.slice none 0 0) (.slice none 0 0)
 change bodyPost Tryd.prog Tryd.f25 (FontR w n rs) Exit.ret _ (store9 (w5.alloc (.cells #[.int .i64 4, .bool false, .slice qa qn qc] 55)) w.heap.size (.int .i64 0) (.slice (some ⟨w.heap.size + 1, 0, none⟩) n n) (.slice none 0 0) (.slice (some ⟨w5.heap.size, 0, none⟩) 1 1) (.slice none 0 0) (.slice none 0 0) (.slice none 0 0) (.slice none 0 0) (.slice none 0 0))
 have ho6 := ho5.alloc (.cells #[.int .i64 4, .bool false, .slice qa qn qc] 55)
 have kl := Bk.new w5 55 #[.int .i64 4, .bool false, .slice qa qn qc]
 rw [World.size_alloc] at hsz
 have hw5 := (below_call b1 hb5).size
 have hl5 := k15.lt
 generalize store9 (w5.alloc (.cells #[.int .i64 4, .bool false, .slice qa qn qc] 55)) w.heap.size (.int .i64 0) (.slice (some ⟨w.heap.size + 1, 0, none⟩) n n) (.slice none 0 0) (.slice (some ⟨w5.heap.size, 0, none⟩) 1 1) (.slice none 0 0) (.slice none 0 0) (.slice none 0 0) (.slice none 0 0) (.slice none 0 0) = W at *
 have ho7 : Ow 85 9 W w.heap.size (some ⟨w.heap.size + 1, 0, none⟩) n n (madeCells zGly.cells (n * 9)).toList := by
  refine Ow.keep (w := w5.alloc (.cells #[.int .i64 4, .bool false, .slice qa qn qc] 55)) (by rw [World.size_alloc] at ho6; exact ho6) fun b e => hkp b ?_
  injection e with e; injection e with e; omega
 have kl7 : Bk W w5.heap.size 55 #[.int .i64 4, .bool false, .slice qa qn qc] := (hkp _ (by omega)).trans kl
 have hR7 := HR.out.mono (lo_mono hbl.size) (kept_below hbl)
 refine bodyPost_ret (results_cell_row rfl _ _ w.heap.size 33 _ (0, 0) _ rfl hk Tryd.underlying33 rfl (by kernel_rfl)) rfl ⟨⟨0, some ⟨w.heap.size + 1, 0, none⟩, n, n, none, 0, 0, some ⟨w5.heap.size, 0, none⟩, 1, 1, none, 0, 0, none, 0, 0, none, 0, 0, none, 0, 0, none, 0, 0⟩, rfl, ⟨rdG_made ho7, ⟨rfl, fun _ => ⟨w5.heap.size, 0, rfl, kl7.lt, fun i x hx => ?_⟩⟩, ⟨Nat.le_refl _, by show n ≤ 9223372036854775807; omega⟩, ⟨Nat.le_refl _, by show 1 ≤ 9223372036854775807; omega⟩⟩, hbl⟩
 match i, hx with
 | 0, hx =>
  injection hx with hx; subst hx
  exact ⟨_, ⟨qa, qn, qc, rfl, hR7, hq⟩, fun j v hv => by
   match j, hv with
   | 0, hv => exact box_cells kl7 0 hv
   | 1, hv => exact box_cells kl7 1 hv
   | 2, hv => exact box_cells kl7 2 hv⟩
end Go.Proofs.YtgcmedkaadagmaaDoor
