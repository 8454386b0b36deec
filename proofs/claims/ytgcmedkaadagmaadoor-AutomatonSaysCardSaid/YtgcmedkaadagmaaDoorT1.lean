/- Walks: AutomatonSays. -/
import Derived.Test.YtgcmedkaadagmaaDoorL9
import Derived.Test.YtgcmedkaadagmaaDoorQ7
namespace Go.Proofs.YtgcmedkaadagmaaDoor
open Go.RowKit Go.Shelf Go.Maps

/-- Glyphs of a font of n, out of any numbers: ten at most. -/
def modG (n : Nat) (l : List Int) : List Int := l.map fun x => x % 65536 % (n : Int)
theorem modG_ok {n : Nat} (hn : 0 < n) (l : List Int) : ∀ g ∈ modG n l, 0 ≤ g ∧ g < (n : Int) := fun g hg => by
  obtain ⟨x, _, rfl⟩ := List.mem_map.1 hg
  exact ⟨Int.emod_nonneg _ (by omega), Int.emod_lt_of_pos _ (by omega)⟩
theorem modG_succ (n : Nat) {l : List Int} {i : Nat} {x : Int} (h : l[i]? = some x) : modG n (l.take (i + 1)) = modG n (l.take i) ++ [x % 65536 % (n : Int)] := by
  unfold modG; rw [List.take_add_one, h]; simp
theorem IsF.two {w w' : World} {g : Nat} {f : FV} {F : Fnt} (h : IsF w (lo g) f F) (hb : ∀ b, b < g → w'.heap[b]? = w.heap[b]?) : IsF w' (lo g) f F := h.mono (fun _ h => h) (fun b hx => hb b hx)
theorem IsA.two {w w' : World} {g : Nat} {v : AV} {a : Au} (h : IsA w (lo g) v a) (hb : ∀ b, b < g → w'.heap[b]? = w.heap[b]?) : IsA w' (lo g) v a := h.mono (fun _ h => h) (fun b hx => hb b hx)
theorem ELk.mono {w w' : World} {S S' : Nat → Prop} {cs : List Value} {l : Lk} (h : ELk w S cs l) (hS : ∀ b, S b → S' b) (hk : Kept S w w') : ELk w' S' cs l := by
  obtain ⟨a, m, c, e, h1, h2⟩ := h
  exact ⟨a, m, c, e, h1.mono hS hk, h2⟩
/-- Two rows in the making, in a block. -/
structure SayS (w wr : World) (gx gF gA gW : Nat) (XC : Array Value) (f : FV) (F : Fnt) (v : AV) (a : Au) (B0 : Option Addr) (m0 d0 : Nat) (y0 : List Int) (B1 : Option Addr) (m1 d1 : Nat) (y1 : List Int) : Prop where
  bl : Below w.heap.size w wr
  kx : Bk wr gx 71 XC
  kf : Bk wr gF 33 f.cells
  ka : Bk wr gA 38 v.cells
  kw : Bk wr gW 71 #[.slice B0 m0 d0, .slice B1 m1 d1]
  fF : IsF wr (lo gW) f F
  fA : IsA wr (lo gW) v a
  o0 : Ow 3 1 wr (gW + 1) B0 m0 d0 (ic y0)
  o1 : Ow 3 1 wr (gW + 1) B1 m1 d1 (ic y1)
  ne : ∀ b, B0.map (·.block) = some b → B1.map (·.block) ≠ some b
  lt : w.heap.size ≤ gx ∧ gx < gW ∧ gF < gW ∧ gA < gW
section
variable {w wr W W4 : World} {gx gF gA gW : Nat} {XC : Array Value} {f : FV} {F : Fnt} {v : AV} {a : Au} {B0 : Option Addr} {m0 d0 : Nat} {y0 : List Int} {B1 : Option Addr} {m1 d1 : Nat} {y1 : List Int}
theorem SayS.call (h : SayS w wr gx gF gA gW XC f F v a B0 m0 d0 y0 B1 m1 d1 y1) (hb : Below wr.heap.size wr W) : SayS w W gx gF gA gW XC f F v a B0 m0 d0 y0 B1 m1 d1 y1 :=
  have hk : ∀ b, b < gW → W.heap[b]? = wr.heap[b]? := fun b hx => hb.block b (Nat.lt_trans hx h.kw.lt)
  ⟨below_call h.bl hb, h.kx.below hb h.kx.lt, h.kf.below hb h.kf.lt, h.ka.below hb h.ka.lt, h.kw.below hb h.kw.lt, h.fF.two hk, h.fA.two hk, h.o0.call hb, h.o1.call hb, h.ne, h.lt⟩
theorem say_far (h : SayS w wr gx gF gA gW XC f F v a B0 m0 d0 y0 B1 m1 d1 y1) (hb : Below wr.heap.size wr W) {o : Obj} {row : Option Nat} (hg : (W.alloc o).grownBy W4 row) (hr : ∀ b, row = some b → gW < b) : (∀ b, b ≤ gW → W4.heap[b]? = wr.heap[b]?) ∧ W.heap.size < W4.heap.size := by
  have s4 := hg.size
  rw [World.size_alloc] at s4
  refine ⟨fun b hx => ?_, by omega⟩
  have h1 := h.kw.lt
  have h2 := hb.size
  rw [hg.block b (by rw [World.size_alloc]; omega) (fun e => by have := hr b e.symm; omega), Below.heap_alloc W o b (by omega)]
  exact hb.block b (by omega)
/-- One number more, in the first row. -/
theorem SayS.push0 (h : SayS w wr gx gF gA gW XC f F v a B0 m0 d0 y0 B1 m1 d1 y1) (hb : Below wr.heap.size wr W) {o : Obj} {A' : Option Addr} {d' : Nat} {x : Int} (ho : Ow 3 1 W4 (gW + 1) A' (m0 + 1) d' (ic y0 ++ [.int .i64 x])) (hg : (W.alloc o).grownBy W4 (B0.map (·.block))) (hb4 : Below (gW + 1) (W.alloc o) W4) (hat : A'.map (·.block) = B0.map (·.block) ∨ A'.map (·.block) = some (W.alloc o).heap.size) :
    SayS w (W4.setCell ⟨gW, 0, none⟩ (.slice A' (m0 + 1) d')) gx gF gA gW XC f F v a A' (m0 + 1) d' (y0 ++ [x]) B1 m1 d1 y1 := by
  obtain ⟨hf, hs⟩ := say_far h hb hg (fun _ e => (h.o0.blk _ e).1)
  have hne : ∀ b, b ≠ gW → (W4.setCell ⟨gW, 0, none⟩ (.slice A' (m0 + 1) d')).heap[b]? = W4.heap[b]? := fun b hx => Below.heap_setCell _ ⟨gW, 0, none⟩ _ b hx
  have hk : ∀ b, b < gW → (W4.setCell ⟨gW, 0, none⟩ (.slice A' (m0 + 1) d')).heap[b]? = wr.heap[b]? := fun b hx => (hne b (by omega)).trans (hf b (by omega))
  obtain ⟨l1, l2, l3, l4⟩ := h.lt
  have kw4 : Bk W4 gW 71 #[.slice B0 m0 d0, .slice B1 m1 d1] := (hf gW (Nat.le_refl _)).trans h.kw
  have hwb := h.bl
  have hsz := hb.size
  have hsz0 := h.bl.size
  refine ⟨?_, (hk gx l2).trans h.kx, (hk gF l3).trans h.kf, (hk gA l4).trans h.ka, kw4.set_ 0 _, h.fF.two hk, h.fA.two hk, ?_, ?_, ?_, ⟨l1, l2, l3, l4⟩⟩
  · exact (((hwb.trans (hb.mono (by omega))).trans (((Below.refl W.heap.size W).alloc (Nat.le_refl _) o).mono (by omega))).trans (hb4.mono (by omega))).setCell (p := ⟨gW, 0, none⟩) (by show w.heap.size ≤ gW; omega) _
  · rw [ic_app]
    exact ho.setOther (p := ⟨gW, 0, none⟩) (fun b e => by have := (ho.blk b (by rw [e]; rfl)).1; show b ≠ gW; omega) _
  · have h1 : Ow 3 1 W4 (gW + 1) B1 m1 d1 (ic y1) := ((h.o1.call hb).alloc o).grown hg (fun b e e2 => h.ne b e2 (by rw [e]; rfl))
    exact h1.setOther (p := ⟨gW, 0, none⟩) (fun b e => by have := (h1.blk b (by rw [e]; rfl)).1; show b ≠ gW; omega) _
  · intro b e1 e2
    rcases hat with e | e
    · exact h.ne b (by rw [← e]; exact e1) e2
    · rw [e1, World.size_alloc] at e
      injection e with e
      have := (h.o1.blk b e2).2.1
      omega
theorem SayS.push1 (h : SayS w wr gx gF gA gW XC f F v a B0 m0 d0 y0 B1 m1 d1 y1) (hb : Below wr.heap.size wr W) {o : Obj} {A' : Option Addr} {d' : Nat} {x : Int} (ho : Ow 3 1 W4 (gW + 1) A' (m1 + 1) d' (ic y1 ++ [.int .i64 x])) (hg : (W.alloc o).grownBy W4 (B1.map (·.block))) (hb4 : Below (gW + 1) (W.alloc o) W4) (hat : A'.map (·.block) = B1.map (·.block) ∨ A'.map (·.block) = some (W.alloc o).heap.size) :
    SayS w (W4.setCell ⟨gW, 1, none⟩ (.slice A' (m1 + 1) d')) gx gF gA gW XC f F v a B0 m0 d0 y0 A' (m1 + 1) d' (y1 ++ [x]) := by
  obtain ⟨hf, hs⟩ := say_far h hb hg (fun _ e => (h.o1.blk _ e).1)
  have hne : ∀ b, b ≠ gW → (W4.setCell ⟨gW, 1, none⟩ (.slice A' (m1 + 1) d')).heap[b]? = W4.heap[b]? := fun b hx => Below.heap_setCell _ ⟨gW, 1, none⟩ _ b hx
  have hk : ∀ b, b < gW → (W4.setCell ⟨gW, 1, none⟩ (.slice A' (m1 + 1) d')).heap[b]? = wr.heap[b]? := fun b hx => (hne b (by omega)).trans (hf b (by omega))
  obtain ⟨l1, l2, l3, l4⟩ := h.lt
  have kw4 : Bk W4 gW 71 #[.slice B0 m0 d0, .slice B1 m1 d1] := (hf gW (Nat.le_refl _)).trans h.kw
  have hwb := h.bl
  have hsz := hb.size
  have hsz0 := h.bl.size
  refine ⟨?_, (hk gx l2).trans h.kx, (hk gF l3).trans h.kf, (hk gA l4).trans h.ka, kw4.set_ 1 _, h.fF.two hk, h.fA.two hk, ?_, ?_, ?_, ⟨l1, l2, l3, l4⟩⟩
  · exact (((hwb.trans (hb.mono (by omega))).trans (((Below.refl W.heap.size W).alloc (Nat.le_refl _) o).mono (by omega))).trans (hb4.mono (by omega))).setCell (p := ⟨gW, 1, none⟩) (by show w.heap.size ≤ gW; omega) _
  · have h1 : Ow 3 1 W4 (gW + 1) B0 m0 d0 (ic y0) := ((h.o0.call hb).alloc o).grown hg (fun b e e2 => h.ne b (by rw [e]; rfl) e2)
    exact h1.setOther (p := ⟨gW, 1, none⟩) (fun b e => by have := (h1.blk b (by rw [e]; rfl)).1; show b ≠ gW; omega) _
  · rw [ic_app]
    exact ho.setOther (p := ⟨gW, 1, none⟩) (fun b e => by have := (ho.blk b (by rw [e]; rfl)).1; show b ≠ gW; omega) _
  · intro b e1 e2
    rcases hat with e | e
    · exact h.ne b e1 (by rw [← e]; exact e2)
    · rw [e2, World.size_alloc] at e
      injection e with e
      have := (h.o0.blk b e1).2.1
      omega
theorem SayS.fFw (h : SayS w wr gx gF gA gW XC f F v a B0 m0 d0 y0 B1 m1 d1 y1) : IsF wr (lo wr.heap.size) f F := h.fF.mono (fun _ hb => Nat.lt_trans hb h.kw.lt) (Kept.refl _ _)
theorem SayS.fAw (h : SayS w wr gx gF gA gW XC f F v a B0 m0 d0 y0 B1 m1 d1 y1) : IsA wr (lo wr.heap.size) v a := h.fA.mono (fun _ hb => Nat.lt_trans hb h.kw.lt) (Kept.refl _ _)
end

set_option maxRecDepth 100000 in
set_option maxHeartbeats 2000000 in
theorem automatonSays_walk (g0 : Int) (A0 : Option Addr) (n0 c0 : Nat) (rs : List Rul) (A1 : Option Addr) (n1 c1 : Nat) (l1 : List Int) (A2 : Option Addr) (n2 c2 : Nat) (l2 : List Int) (w : World) (h : RdR w (lo w.heap.size) A0 n0 rs) (hh : Hd n0 c0) (h1 : Rd w (lo w.heap.size) A1 n1 l1) (g1 : Hd n1 c1) (h2 : Rd w (lo w.heap.size) A2 n2 l2) (g2 : Hd n2 c2) (hT : Tab w) : Calls Tryd.prog 11 #[.int .i64 g0, .slice A0 n0 c0, .agg #[.slice A1 n1 c1, .slice A2 n2 c2]] w fun e w' => e = .returned (.bool true) ∧ Below w.heap.size w w' := by
  have hTp := hT.pos
  have b0 : Below w.heap.size w (w.alloc (.cells #[.slice A1 n1 c1, .slice A2 n2 c2] 71)) := below_lit _ _ (Below.refl _ _) _
  have kx0 := Bk.new w 71 #[.slice A1 n1 c1, .slice A2 n2 c2]
  have HSH := Lib.hid (shown_c (w.alloc (.cells #[.slice A1 n1 c1, .slice A2 n2 c2] 71)) (hT.call b0 hTp))
  have HTT := Lib.hid fun (W : World) (bW : Below w.heap.size w W) => hT.call bW hTp
  have HR := Lib.hid fun (W : World) (bW : Below w.heap.size w W) => h.call bW
  have HR1 := Lib.hid fun (W : World) (bW : Below w.heap.size w W) => h1.call bW
  have L1 := Lib.hid h1.len
  have g1a := g1.1
  have g1b := g1.2
  have HR2 := Lib.hid fun (W : World) (bW : Below w.heap.size w W) => h2.call bW
  have L2 := Lib.hid h2.len
  have g2a := g2.1
  have g2b := g2.2
  clear h hT h1 g1 h2 g2
  go_enter Tryd.func11, Tryd.ntmps11
  go_wp2_with fail
  refine HSH.out.mono ?_
  rintro e w1 ⟨rfl, bn⟩
  have b1 := below_call b0 bn
  have kx1 := kx0.below bn kx0.lt
  have HM := Lib.hid (made_c g0 A0 n0 c0 rs w1 (HR.out w1 b1) hh)
  clear HSH b0 bn kx0
  go_wp2_with fail
  refine HM.out.mono ?_
  rintro e w2 ⟨f, rfl, hF, bn⟩
  have b2 := below_call b1 bn
  have kx2 := kx1.below bn kx1.lt
  obtain ⟨gn, hgn⟩ : ∃ n : Nat, glyN g0 = n := ⟨_, rfl⟩
  have hgn8 : gn ≤ 8 := hgn ▸ glyN_le g0
  have hgn0 : 0 < gn := hgn ▸ glyN_pos g0
  rw [hgn] at hF
  clear hgn
  have b23 : Below w2.heap.size w2 (w2.alloc (.cells #[.int .i64 f.u0, .slice f.ga f.gn f.gc, .slice f.ca f.cn f.cc, .slice f.la f.ln f.lc, .slice f.a4 f.n4 f.c4, .slice f.a5 f.n5 f.c5, .slice f.a6 f.n6 f.c6, .slice f.a7 f.n7 f.c7, .slice f.a8 f.n8 f.c8] 33)) := (Below.refl _ _).alloc (Nat.le_refl _) _
  have hF2 : IsF w2 (lo w2.heap.size) f (fontF gn (madeR rs)) := hF.mono (fun _ hb => hb.2) (Kept.refl _ _)
  have hF3 := hF2.call b23
  have kf3 := Bk.new w2 33 #[.int .i64 f.u0, .slice f.ga f.gn f.gc, .slice f.ca f.cn f.cc, .slice f.la f.ln f.lc, .slice f.a4 f.n4 f.c4, .slice f.a5 f.n5 f.c5, .slice f.a6 f.n6 f.c6, .slice f.a7 f.n7 f.c7, .slice f.a8 f.n8 f.c8]
  have b3 := below_call b2 b23
  have kx3 := kx2.below b23 kx2.lt
  obtain ⟨a, ha, hbl⟩ := made_build rs hgn0 hgn8
  have hbl2 : buildL (fontF gn (madeR rs)) 0 = (some a, 0) := hbl
  have HB := Lib.hid (build_c f (fontF gn (madeR rs)) 0 _ hF3 (fun lk h _ => by rw [fontF_lk, if_pos rfl] at h; injection h with h; subst h; exact made_sm rs))
  have HBL := Lib.hid hbl2; have HAU := Lib.hid ha
  unfold FV.cells at HB
  clear HM b1 b2 b23 bn hF hF2 hbl hbl2 ha kx1 kx2
  go_wp2_with fail
  refine HB.out.mono ?_
  rintro e w4 ⟨bn, hm⟩
  rw [HBL.out] at hm
  obtain ⟨v, rfl, hA4⟩ := hm
  have b4 := below_call b3 bn
  have hF4 := hF3.call bn
  have kf4 := kf3.below bn kf3.lt
  have kx4 := kx3.below bn kx3.lt
  clear HB b3 hF3 kf3 bn kx3
  unfold AV.cells at *
  have hgl : f.gn = gn := by have h1 := hF4.1.len; rw [← h1]; exact fontF_len gn (madeR rs)
  go_upto_region 8 with fail
  obtain ⟨w6, hw6⟩ : ∃ w6, (w4.alloc (.cells #[.slice v.ca v.cn v.cc, .slice v.fa v.fn v.fc, .slice v.ba v.bn v.bc, .slice v.ea v.en v.ec, .slice v.ga v.gn v.gc] 38)).alloc (.cells #[.slice none 0 0, .slice none 0 0] 71) = w6 := ⟨_, rfl⟩
  have hss : SayS w w6 w.heap.size w2.heap.size w4.heap.size (w4.heap.size + 1) #[.slice A1 n1 c1, .slice A2 n2 c2] f (fontF gn (madeR rs)) v a none 0 0 (modG gn (l1.take 0)) none 0 0 (modG gn (l2.take 0)) := by
    have b45 : Below w4.heap.size w4 (w4.alloc (.cells #[.slice v.ca v.cn v.cc, .slice v.fa v.fn v.fc, .slice v.ba v.bn v.bc, .slice v.ea v.en v.ec, .slice v.ga v.gn v.gc] 38)) := (Below.refl _ _).alloc (Nat.le_refl _) _
    have b46 : Below w4.heap.size w4 w6 := by rw [← hw6]; exact below_lit _ _ b45 _
    have kw := Bk.new (w4.alloc (.cells #[.slice v.ca v.cn v.cc, .slice v.fa v.fn v.fc, .slice v.ba v.bn v.bc, .slice v.ea v.en v.ec, .slice v.ga v.gn v.gc] 38)) 71 #[.slice none 0 0, .slice none 0 0]
    rw [World.size_alloc, hw6] at kw
    have ka := (Bk.new w4 38 #[.slice v.ca v.cn v.cc, .slice v.fa v.fn v.fc, .slice v.ba v.bn v.bc, .slice v.ea v.en v.ec, .slice v.ga v.gn v.gc]).alloc (.cells #[.slice none 0 0, .slice none 0 0] 71)
    rw [hw6] at ka
    have lx := kx4.lt
    have lf := kf4.lt
    have hk : ∀ b, b < w4.heap.size → w6.heap[b]? = w4.heap[b]? := fun b hb => b46.block b hb
    exact ⟨below_call b4 b46, kx4.below b46 lx, kf4.below b46 lf, ka, kw, hF4.mono (fun b hb => Nat.lt_succ_of_lt hb) (fun b hb => hk b hb), hA4.mono (fun b hb => Nat.lt_succ_of_lt hb) (fun b hb => hk b hb), Ow.nil _ _ _ _, Ow.nil _ _ _ _, (fun b e => by cases e), ⟨Nat.le_refl _, by omega, by omega, by omega⟩⟩
  rw [hw6]
  have YF := Lib.hid (show some (Value.slice f.ga f.gn f.gc) = some (.slice f.ga gn f.gc) by rw [hgl])
  clear kx4 kf4 b4 hF4 hA4 hw6
  go_loopw [12] (fun kv wr => ∃ k : Nat, k ≤ 2 ∧ kv = .int .i64 k ∧ ∃ (B0 : Option Addr) (m0 d0 : Nat) (y0 : List Int) (B1 : Option Addr) (m1 d1 : Nat) (y1 : List Int), SayS w wr w.heap.size w2.heap.size w4.heap.size (w4.heap.size + 1) #[.slice A1 n1 c1, .slice A2 n2 c2] f (fontF gn (madeR rs)) v a B0 m0 d0 y0 B1 m1 d1 y1 ∧ y0 = modG gn (l1.take (if k = 0 then 0 else 10)) ∧ y1 = modG gn (l2.take (if k = 2 then 10 else 0))) (fun kv _ => 2 - (intOf kv).toNat)
  case atStart => exact ⟨0, by omega, rfl, _, _, _, _, _, _, _, _, hss, rfl, rfl⟩
  case round =>
    clear hss
    obtain ⟨k, hk2, rfl, B0, m0, d0, y0, B1, m1, d1, y1, hss, hy0, hy1⟩ := hrel
    by_cases k0 : k = 0
    · subst k0
      rw [if_pos rfl] at hy0
      rw [if_neg (by omega)] at hy1
      obtain rfl : m0 = 0 := by have h1 := hss.o0.len; rw [hy0] at h1; simpa [modG, ic] using h1.symm
      rw [hy0] at hss
      have HY1 := Lib.hid hy1
      clear hy0 hk2
      clear hy1
      obtain ⟨wo, hwo⟩ : ∃ wo : World, wo = wr := ⟨_, rfl⟩
      go_upto_region 11 with fail
      rw [← hwo] at hss
      rw [← hwo]
      clear hwo
      go_loopw [13] (fun iv wr => ∃ (i : Nat) (Ax : Option Addr) (d : Nat), i ≤ 10 ∧ i ≤ n1 ∧ iv = .int .i64 i ∧ SayS w wr w.heap.size w2.heap.size w4.heap.size (w4.heap.size + 1) #[.slice A1 n1 c1, .slice A2 n2 c2] f (fontF gn (madeR rs)) v a Ax i d (modG gn (l1.take i)) B1 m1 d1 y1) (fun iv _ => n1 - (intOf iv).toNat)
      case atStart => exact ⟨0, B0, d0, by omega, by omega, rfl, hss⟩
      case round =>
        clear hss
        obtain ⟨i, B0, d0, hi10, hin, rfl, hss⟩ := hrel
        have yx := box_cells hss.kx 0 rfl
        by_cases hlt : i < n1
        · have inn : (i : Int) < (n1 : Int) := by omega
          by_cases hlt10 : i < 10
          · have i10 : (i : Int) < 10 := by omega
            have iz : (0 : Int) ≤ (i : Int) := by omega
            obtain ⟨x, hx⟩ := at_some l1 i (by rw [L1.out]; omega)
            obtain ⟨ba, oa, rfl, hba, hcc⟩ := (HR1.out w (Below.refl _ _)).pos (show 0 < n1 by omega)
            obtain ⟨cs, rfl, hcc2⟩ := hcc i x hx
            have xe := (hss.bl.cell (p := ⟨ba, oa + i * 1 + 0, none⟩) hba).trans (hcc2 0 _ rfl)
            rw [Nat.mul_one, Nat.add_zero] at xe
            change ba < w.heap.size at hba
            have HMG := Lib.hid (modG_succ gn hx)
            obtain ⟨z, hz⟩ : ∃ z : Int, x % 65536 % (gn : Int) = z := ⟨_, rfl⟩
            have e1 := and65535 x
            obtain ⟨z0, hz0⟩ : ∃ z0 : Nat, x % 65536 = (z0 : Int) := ⟨(x % 65536).toNat, by omega⟩
            rw [hz0] at e1 hz
            have e2 : (z0 : Int).tmod (gn : Int) = z := by rw [Int.tmod_eq_emod_of_nonneg (by omega)]; exact hz
            rw [hz0, hz] at HMG
            have ez : ¬ ((gn : Int) = 0) := by omega
            have ez2 : ¬ (gn = 0) := by omega
            have yf := (box_cells hss.kf 1 rfl).trans YF.out
            have yw := box_cells hss.kw 0 rfl
            have HSS := Lib.hid hss
            clear hcc hcc2 hx hss hz hz0
            go_upto_region 13 with fail
            have HS := Lib.hid fun (W : World) (bW : Below wr.heap.size wr W) => (show W.cell? ⟨w.heap.size, 0, none⟩ = some (.slice (some ⟨ba, oa, none⟩) n1 c1) ∧ W.cell? ⟨ba, oa + i, none⟩ = some (.int .i64 x) ∧ W.cell? ⟨w2.heap.size, 1, none⟩ = some (.slice f.ga gn f.gc) from ⟨cell_call yx bW, cell_call xe bW, cell_call yf bW⟩)
            have bb := Below.refl wr.heap.size wr
            refine wp_region_held_drew (S := fun w' => w'.cell? ⟨w.heap.size, 0, none⟩ = some (.slice (some ⟨ba, oa, none⟩) n1 c1) ∧ w'.cell? ⟨ba, oa + i, none⟩ = some (.int .i64 x) ∧ w'.cell? ⟨w2.heap.size, 1, none⟩ = some (.slice f.ga gn f.gc)) (by kernel_rfl) ?_ (fun hHeld => ?_)
            · exact HS.out _ (below_drewN bb 1)
            replace bb := below_drewN bb 1
            change Below _ _ wr.drew at bb
            generalize hw0 : wr.drew = W0 at hHeld bb ⊢
            clear hw0
            refine wpAnyH_take (i := 0) (v := ?_) (by simp only [List.getElem?_toArray]; rfl) (by kernel_rfl) (by kernel_rfl) (by kernel_rfl) (by exact fun _ _ _ h => h) (Or.inl ⟨by rfl, ?_⟩) (by assumption) ?_
            rotate_left 1
            · intro w hSw; (try dsimp only at hSw); go_simp; try with_reducible rfl
            try conv => arg 8; simp only [Act.put, List.setIfInBounds_toArray, List.set_cons_zero, List.set_cons_succ]
            refine wpAnyH_take (i := 1) (v := ?_) (by simp only [List.getElem?_toArray]; rfl) (by kernel_rfl) (by kernel_rfl) (by kernel_rfl) (by exact fun _ _ _ h => h) (Or.inl ⟨by rfl, ?_⟩) (by assumption) ?_
            rotate_left 1
            · intro w hSw; (try dsimp only at hSw); go_simp; try with_reducible rfl
            try conv => arg 8; simp only [Act.put, List.setIfInBounds_toArray, List.set_cons_zero, List.set_cons_succ]
            refine wpAnyH_take (i := 2) (v := ?_) (by simp only [List.getElem?_toArray]; rfl) (by kernel_rfl) (by kernel_rfl) (by kernel_rfl) (by exact fun _ _ _ h => h) (Or.inl ⟨by rfl, ?_⟩) (by assumption) ?_
            rotate_left 1
            · intro w hSw; (try dsimp only at hSw); go_simp; try with_reducible rfl
            try conv => arg 8; simp only [Act.put, List.setIfInBounds_toArray, List.set_cons_zero, List.set_cons_succ]
            refine wpAnyH_take (i := 4) (v := ?_) (by simp only [List.getElem?_toArray]; rfl) (by kernel_rfl) (by kernel_rfl) (by kernel_rfl) (by exact fun _ _ _ h => h) (Or.inl ⟨by rfl, ?_⟩) (by assumption) ?_
            rotate_left 1
            · intro w hSw; (try dsimp only at hSw); go_simp; try with_reducible rfl
            try conv => arg 8; simp only [Act.put, List.setIfInBounds_toArray, List.set_cons_zero, List.set_cons_succ]
            refine wpAnyH_take (i := 5) (v := ?_) (by simp only [List.getElem?_toArray]; rfl) (by kernel_rfl) (by kernel_rfl) (by kernel_rfl) (by exact fun _ _ _ h => h) (Or.inl ⟨by rfl, ?_⟩) (by assumption) ?_
            rotate_left 1
            · intro w hSw; (try dsimp only at hSw); go_simp; try with_reducible rfl
            try conv => arg 8; simp only [Act.put, List.setIfInBounds_toArray, List.set_cons_zero, List.set_cons_succ]
            refine wpAnyH_take (i := 6) (v := ?_) (by simp only [List.getElem?_toArray]; rfl) (by kernel_rfl) (by kernel_rfl) (by kernel_rfl) (by exact fun _ _ _ h => h) (Or.inl ⟨by rfl, ?_⟩) (by assumption) ?_
            rotate_left 1
            · intro w hSw; (try dsimp only at hSw); go_simp; try with_reducible rfl
            try conv => arg 8; simp only [Act.put, List.setIfInBounds_toArray, List.set_cons_zero, List.set_cons_succ]
            refine wpAnyH_take (i := 7) (v := ?_) (by simp only [List.getElem?_toArray]; rfl) (by kernel_rfl) (by kernel_rfl) (by kernel_rfl) (by exact fun _ _ _ h => h) (Or.inl ⟨by rfl, ?_⟩) (by assumption) ?_
            rotate_left 1
            · intro w hSw; (try dsimp only at hSw); go_simp; try with_reducible rfl
            try conv => arg 8; simp only [Act.put, List.setIfInBounds_toArray, List.set_cons_zero, List.set_cons_succ]
            refine wpAnyH_take (i := 8) (v := ?_) (by simp only [List.getElem?_toArray]; rfl) (by kernel_rfl) (by kernel_rfl) (by kernel_rfl) (by exact fun _ _ _ h => h) (Or.inl ⟨by rfl, ?_⟩) (by assumption) ?_
            rotate_left 1
            · intro w hSw; (try dsimp only at hSw); go_simp; try with_reducible rfl
            try conv => arg 8; simp only [Act.put, List.setIfInBounds_toArray, List.set_cons_zero, List.set_cons_succ]
            refine wpAnyH_take (i := 9) (v := ?_) (by simp only [List.getElem?_toArray]; rfl) (by kernel_rfl) (by kernel_rfl) (by kernel_rfl) (by exact fun _ _ _ h => h) (Or.inl ⟨by rfl, ?_⟩) (by assumption) ?_
            rotate_left 1
            · intro w hSw; (try dsimp only at hSw); go_simp; try with_reducible rfl
            try conv => arg 8; simp only [Act.put, List.setIfInBounds_toArray, List.set_cons_zero, List.set_cons_succ]
            refine wpAnyH_take (i := 10) (v := ?_) (by simp only [List.getElem?_toArray]; rfl) (by kernel_rfl) (by kernel_rfl) (by kernel_rfl) (by exact fun _ _ _ h => h) (Or.inl ⟨by rfl, ?_⟩) (by assumption) ?_
            rotate_left 1
            · intro w hSw; (try dsimp only at hSw); go_simp; try with_reducible rfl
            try conv => arg 8; simp only [Act.put, List.setIfInBounds_toArray, List.set_cons_zero, List.set_cons_succ]
            refine wpAnyH_take (i := 11) (v := ?_) (by simp only [List.getElem?_toArray]; rfl) (by kernel_rfl) (by kernel_rfl) (by kernel_rfl) (by exact fun _ _ _ h => h) (Or.inl ⟨by rfl, ?_⟩) (by assumption) ?_
            rotate_left 1
            · intro w hSw; (try dsimp only at hSw); go_simp; try with_reducible rfl
            try conv => arg 8; simp only [Act.put, List.setIfInBounds_toArray, List.set_cons_zero, List.set_cons_succ]
            refine wpAnyH_take (i := 12) (v := ?_) (by simp only [List.getElem?_toArray]; rfl) (by kernel_rfl) (by kernel_rfl) (by kernel_rfl) (by exact fun _ _ _ h => h) (Or.inl ⟨by rfl, ?_⟩) (by assumption) ?_
            rotate_left 1
            · intro w hSw; (try dsimp only at hSw); go_simp; try with_reducible rfl
            try conv => arg 8; simp only [Act.put, List.setIfInBounds_toArray, List.set_cons_zero, List.set_cons_succ]
            refine wpAnyH_take (i := 13) (v := ?_) (by simp only [List.getElem?_toArray]; rfl) (by kernel_rfl) (by kernel_rfl) (by kernel_rfl) (by exact fun _ _ _ h => h) (Or.inl ⟨by rfl, ?_⟩) (by assumption) ?_
            rotate_left 1
            · intro w hSw; (try dsimp only at hSw); go_simp; try with_reducible rfl
            try conv => arg 8; simp only [Act.put, List.setIfInBounds_toArray, List.set_cons_zero, List.set_cons_succ]
            refine wpAnyH_take (i := 14) (v := ?_) (by simp only [List.getElem?_toArray]; rfl) (by kernel_rfl) (by kernel_rfl) (by kernel_rfl) (by exact fun _ _ _ h => h) (Or.inl ⟨by rfl, ?_⟩) (by assumption) ?_
            rotate_left 1
            · intro w hSw; (try dsimp only at hSw); go_simp; try with_reducible rfl
            try conv => arg 8; simp only [Act.put, List.setIfInBounds_toArray, List.set_cons_zero, List.set_cons_succ]
            refine wpAnyH_ready (rs := [3, 15]) (by kernel_rfl) (by simp) ?_
            refine AllReadyH.cons (by simp only [List.getElem?_toArray]; rfl) (fun K hK => ?_) (AllReadyH.cons (by simp only [List.getElem?_toArray]; rfl) (fun K hK => ?_) AllReadyH.nil)
            · have yL := cell_call yw bb
              refine wanted_pos (by kernel_rfl) ?_
              go_simp
              clear hHeld
              refine hK.out _ _ ?_ (fun hHeld => ?_)
              · exact HS.out _ bb
              clear hK K
              try conv => arg 8; simp only [Act.put, List.setIfInBounds_toArray, List.set_cons_zero, List.set_cons_succ]
              clear yL
              refine wpAnyH_ready (rs := [15]) (by kernel_rfl) (by simp) ?_
              refine AllReadyH.cons (by simp only [List.getElem?_toArray]; rfl) (fun K hK => ?_) AllReadyH.nil
              refine wanted_pos (by kernel_rfl) ?_
              go_simp
              clear hHeld
              refine hK.out _ _ ?_ (fun hHeld => ?_)
              · exact HS.out _ (below_lit _ _ bb _)
              clear hK K
              try conv => arg 8; simp only [Act.put, List.setIfInBounds_toArray, List.set_cons_zero, List.set_cons_succ]
              refine wpAnyH_ready (rs := [16]) (by kernel_rfl) (by simp) ?_
              refine AllReadyH.cons (by simp only [List.getElem?_toArray]; rfl) (fun K hK => ?_) AllReadyH.nil
              clear hHeld
              have how := (HSS.out.o0.call bb).alloc (.cells #[.int .i64 z] 3)
              have hnw := news_new W0 [.int .i64 z] 3
              have hs2 : w4.heap.size + 1 + 1 ≤ (W0.alloc (.cells #[.int .i64 z] 3)).heap.size := by rw [World.size_alloc]; have h1 := HSS.out.kw.lt; have h2 := bb.size; omega
              refine appStep elt_int (by kernel_rfl) _ _ rfl (W0.alloc (.cells #[.int .i64 z] 3)) (w4.heap.size + 1 + 1) _ _ _ (ic (modG gn (l1.take i))) _ 1 1 [.int .i64 z] (by rfl) (by rfl) how rfl hnw (by simp [Value.oneCell']) (by omega) hs2 ?_
              intro A' d' W4 ho4 hg4 hb4 hat4
              have hp := HSS.out.push0 bb ho4 hg4 hb4 hat4
              have hfar := say_far HSS.out bb hg4 (fun b e => (HSS.out.o0.blk b e).1)
              have hlo : ∀ b, b < w.heap.size → W4.heap[b]? = wr.heap[b]? := fun b hb => hfar.1 b (by have := HSS.out.lt.1; have := HSS.out.lt.2.1; omega)
              have kw4 : Bk W4 (w4.heap.size + 1) 71 _ := (hfar.1 _ (Nat.le_refl _)).trans HSS.out.kw
              have kx4 : Bk W4 w.heap.size 71 _ := (hfar.1 _ (Nat.le_of_lt HSS.out.lt.2.1)).trans HSS.out.kx
              have kf4 : Bk W4 w2.heap.size 33 _ := (hfar.1 _ (Nat.le_of_lt HSS.out.lt.2.2.1)).trans HSS.out.kf
              have yw4 := box_cells kw4 0 rfl
              have fw4 := kw4.frozen 0
              refine hK.out _ _ ?_ (fun hHeld => ?_)
              · exact ⟨box_cells kx4 0 rfl, (World.cell?_of_block (a := ⟨ba, oa + i, none⟩) (hlo ba hba)).trans xe, (box_cells kf4 1 rfl).trans YF.out⟩
              clear hK K
              try conv => arg 8; simp only [Act.put, List.setIfInBounds_toArray, List.set_cons_zero, List.set_cons_succ]
              refine wpAnyH_take (i := 17) (v := ?_) (by simp only [List.getElem?_toArray]; rfl) (by kernel_rfl) (by kernel_rfl) (by kernel_rfl) (by exact fun _ _ _ h => h) (Or.inl ⟨by rfl, ?_⟩) (by assumption) ?_
              rotate_left 1
              · intro w hSw; (try dsimp only at hSw); go_simp; try with_reducible rfl
              try conv => arg 8; simp only [Act.put, List.setIfInBounds_toArray, List.set_cons_zero, List.set_cons_succ]
              refine wpAnyH_ready (rs := [18]) (by kernel_rfl) (by simp) ?_
              refine AllReadyH.cons (by simp only [List.getElem?_toArray]; rfl) (fun K hK => ?_) AllReadyH.nil
              refine wanted_pos (by kernel_rfl) ?_
              go_simp
              clear hHeld
              refine hK.out _ _ ?_ (fun hHeld => ?_)
              · refine ⟨box_cells hp.kx 0 rfl, ?_, (box_cells hp.kf 1 rfl).trans YF.out⟩
                exact (World.cell?_of_block (a := ⟨ba, oa + i, none⟩) ((Below.heap_setCell _ ⟨w4.heap.size + 1, 0, none⟩ _ ba (by have := HSS.out.lt.1; have := HSS.out.lt.2.1; show ba ≠ w4.heap.size + 1; omega)).trans (hlo ba hba))).trans xe
              clear hK K
              try conv => arg 8; simp only [Act.put, List.setIfInBounds_toArray, List.set_cons_zero, List.set_cons_succ]
              refine wpAnyH_done (by kernel_rfl) ?_ _
              clear hHeld yw4 fw4 kw4 kx4 kf4 how hnw
              have bz := hp.bl
              go_wp2_with fail
              go_roundw
              case rel => exact ⟨i + 1, by omega, by omega, by omega, A', d', by rw [HMG.out]; exact hp⟩
              case measure => simp [intOf]; omega

            · refine wanted_pos (by kernel_rfl) ?_
              go_simp
              clear hHeld
              refine hK.out _ _ ?_ (fun hHeld => ?_)
              · exact HS.out _ (below_lit _ _ bb _)
              clear hK K
              try conv => arg 8; simp only [Act.put, List.setIfInBounds_toArray, List.set_cons_zero, List.set_cons_succ]
              refine wpAnyH_ready (rs := [3]) (by kernel_rfl) (by simp) ?_
              refine AllReadyH.cons (by simp only [List.getElem?_toArray]; rfl) (fun K hK => ?_) AllReadyH.nil
              have yL := cell_alloc (cell_call yw bb) (.cells #[.int .i64 z] 3)
              refine wanted_pos (by kernel_rfl) ?_
              go_simp
              clear hHeld
              refine hK.out _ _ ?_ (fun hHeld => ?_)
              · exact HS.out _ (below_lit _ _ bb _)
              clear hK K
              try conv => arg 8; simp only [Act.put, List.setIfInBounds_toArray, List.set_cons_zero, List.set_cons_succ]
              clear yL
              refine wpAnyH_ready (rs := [16]) (by kernel_rfl) (by simp) ?_
              refine AllReadyH.cons (by simp only [List.getElem?_toArray]; rfl) (fun K hK => ?_) AllReadyH.nil
              clear hHeld
              have how := (HSS.out.o0.call bb).alloc (.cells #[.int .i64 z] 3)
              have hnw := news_new W0 [.int .i64 z] 3
              have hs2 : w4.heap.size + 1 + 1 ≤ (W0.alloc (.cells #[.int .i64 z] 3)).heap.size := by rw [World.size_alloc]; have h1 := HSS.out.kw.lt; have h2 := bb.size; omega
              refine appStep elt_int (by kernel_rfl) _ _ rfl (W0.alloc (.cells #[.int .i64 z] 3)) (w4.heap.size + 1 + 1) _ _ _ (ic (modG gn (l1.take i))) _ 1 1 [.int .i64 z] (by rfl) (by rfl) how rfl hnw (by simp [Value.oneCell']) (by omega) hs2 ?_
              intro A' d' W4 ho4 hg4 hb4 hat4
              have hp := HSS.out.push0 bb ho4 hg4 hb4 hat4
              have hfar := say_far HSS.out bb hg4 (fun b e => (HSS.out.o0.blk b e).1)
              have hlo : ∀ b, b < w.heap.size → W4.heap[b]? = wr.heap[b]? := fun b hb => hfar.1 b (by have := HSS.out.lt.1; have := HSS.out.lt.2.1; omega)
              have kw4 : Bk W4 (w4.heap.size + 1) 71 _ := (hfar.1 _ (Nat.le_refl _)).trans HSS.out.kw
              have kx4 : Bk W4 w.heap.size 71 _ := (hfar.1 _ (Nat.le_of_lt HSS.out.lt.2.1)).trans HSS.out.kx
              have kf4 : Bk W4 w2.heap.size 33 _ := (hfar.1 _ (Nat.le_of_lt HSS.out.lt.2.2.1)).trans HSS.out.kf
              have yw4 := box_cells kw4 0 rfl
              have fw4 := kw4.frozen 0
              refine hK.out _ _ ?_ (fun hHeld => ?_)
              · exact ⟨box_cells kx4 0 rfl, (World.cell?_of_block (a := ⟨ba, oa + i, none⟩) (hlo ba hba)).trans xe, (box_cells kf4 1 rfl).trans YF.out⟩
              clear hK K
              try conv => arg 8; simp only [Act.put, List.setIfInBounds_toArray, List.set_cons_zero, List.set_cons_succ]
              refine wpAnyH_take (i := 17) (v := ?_) (by simp only [List.getElem?_toArray]; rfl) (by kernel_rfl) (by kernel_rfl) (by kernel_rfl) (by exact fun _ _ _ h => h) (Or.inl ⟨by rfl, ?_⟩) (by assumption) ?_
              rotate_left 1
              · intro w hSw; (try dsimp only at hSw); go_simp; try with_reducible rfl
              try conv => arg 8; simp only [Act.put, List.setIfInBounds_toArray, List.set_cons_zero, List.set_cons_succ]
              refine wpAnyH_ready (rs := [18]) (by kernel_rfl) (by simp) ?_
              refine AllReadyH.cons (by simp only [List.getElem?_toArray]; rfl) (fun K hK => ?_) AllReadyH.nil
              refine wanted_pos (by kernel_rfl) ?_
              go_simp
              clear hHeld
              refine hK.out _ _ ?_ (fun hHeld => ?_)
              · refine ⟨box_cells hp.kx 0 rfl, ?_, (box_cells hp.kf 1 rfl).trans YF.out⟩
                exact (World.cell?_of_block (a := ⟨ba, oa + i, none⟩) ((Below.heap_setCell _ ⟨w4.heap.size + 1, 0, none⟩ _ ba (by have := HSS.out.lt.1; have := HSS.out.lt.2.1; show ba ≠ w4.heap.size + 1; omega)).trans (hlo ba hba))).trans xe
              clear hK K
              try conv => arg 8; simp only [Act.put, List.setIfInBounds_toArray, List.set_cons_zero, List.set_cons_succ]
              refine wpAnyH_done (by kernel_rfl) ?_ _
              clear hHeld yw4 fw4 kw4 kx4 kf4 how hnw
              have bz := hp.bl
              go_wp2_with fail
              go_roundw
              case rel => exact ⟨i + 1, by omega, by omega, by omega, A', d', by rw [HMG.out]; exact hp⟩
              case measure => simp [intOf]; omega

          · have i10 : ¬ (i : Int) < 10 := by omega
            have htk : l1.take i = l1.take 10 := by rw [show i = 10 by omega]
            rw [htk] at hss
            go_wp2_with fail
            go_roundw
            case rel => exact ⟨1, by omega, by go_num, _, _, _, _, _, _, _, _, hss, rfl, HY1.out⟩
            case measure => simp [intOf]
        · have inn : ¬ (i : Int) < (n1 : Int) := by omega
          have htk : l1.take i = l1.take 10 := by rw [List.take_of_length_le (show l1.length ≤ 10 by rw [L1.out]; omega), List.take_of_length_le (show l1.length ≤ i by rw [L1.out]; omega)]
          rw [htk] at hss
          go_wp2_with fail
          go_roundw
          case rel => exact ⟨1, by omega, by go_num, _, _, _, _, _, _, _, _, hss, rfl, HY1.out⟩
          case measure => simp [intOf]

    · by_cases k1 : k = 1
      · subst k1
        rw [if_neg (by omega)] at hy0
        rw [if_neg (by omega)] at hy1
        obtain rfl : m1 = 0 := by have h1 := hss.o1.len; rw [hy1] at h1; simpa [modG, ic] using h1.symm
        rw [hy1] at hss
        have HY0 := Lib.hid hy0
        clear hy1 hk2 k0
        clear hy0
        obtain ⟨wo, hwo⟩ : ∃ wo : World, wo = wr := ⟨_, rfl⟩
        go_upto_region 11 with fail
        rw [← hwo] at hss
        rw [← hwo]
        clear hwo
        go_loopw [13] (fun iv wr => ∃ (i : Nat) (Ax : Option Addr) (d : Nat), i ≤ 10 ∧ i ≤ n2 ∧ iv = .int .i64 i ∧ SayS w wr w.heap.size w2.heap.size w4.heap.size (w4.heap.size + 1) #[.slice A1 n1 c1, .slice A2 n2 c2] f (fontF gn (madeR rs)) v a B0 m0 d0 y0 Ax i d (modG gn (l2.take i))) (fun iv _ => n2 - (intOf iv).toNat)
        case atStart => exact ⟨0, B1, d1, by omega, by omega, rfl, hss⟩
        case round =>
          clear hss
          obtain ⟨i, B1, d1, hi10, hin, rfl, hss⟩ := hrel
          have yx := box_cells hss.kx 1 rfl
          by_cases hlt : i < n2
          · have inn : (i : Int) < (n2 : Int) := by omega
            by_cases hlt10 : i < 10
            · have i10 : (i : Int) < 10 := by omega
              have iz : (0 : Int) ≤ (i : Int) := by omega
              obtain ⟨x, hx⟩ := at_some l2 i (by rw [L2.out]; omega)
              obtain ⟨ba, oa, rfl, hba, hcc⟩ := (HR2.out w (Below.refl _ _)).pos (show 0 < n2 by omega)
              obtain ⟨cs, rfl, hcc2⟩ := hcc i x hx
              have xe := (hss.bl.cell (p := ⟨ba, oa + i * 1 + 0, none⟩) hba).trans (hcc2 0 _ rfl)
              rw [Nat.mul_one, Nat.add_zero] at xe
              change ba < w.heap.size at hba
              have HMG := Lib.hid (modG_succ gn hx)
              obtain ⟨z, hz⟩ : ∃ z : Int, x % 65536 % (gn : Int) = z := ⟨_, rfl⟩
              have e1 := and65535 x
              obtain ⟨z0, hz0⟩ : ∃ z0 : Nat, x % 65536 = (z0 : Int) := ⟨(x % 65536).toNat, by omega⟩
              rw [hz0] at e1 hz
              have e2 : (z0 : Int).tmod (gn : Int) = z := by rw [Int.tmod_eq_emod_of_nonneg (by omega)]; exact hz
              rw [hz0, hz] at HMG
              have ez : ¬ ((gn : Int) = 0) := by omega
              have ez2 : ¬ (gn = 0) := by omega
              have yf := (box_cells hss.kf 1 rfl).trans YF.out
              have yw := box_cells hss.kw 1 rfl
              have HSS := Lib.hid hss
              clear hcc hcc2 hx hss hz hz0
              go_upto_region 13 with fail
              have HS := Lib.hid fun (W : World) (bW : Below wr.heap.size wr W) => (show W.cell? ⟨w.heap.size, 1, none⟩ = some (.slice (some ⟨ba, oa, none⟩) n2 c2) ∧ W.cell? ⟨ba, oa + i, none⟩ = some (.int .i64 x) ∧ W.cell? ⟨w2.heap.size, 1, none⟩ = some (.slice f.ga gn f.gc) from ⟨cell_call yx bW, cell_call xe bW, cell_call yf bW⟩)
              have bb := Below.refl wr.heap.size wr
              refine wp_region_held_drew (S := fun w' => w'.cell? ⟨w.heap.size, 1, none⟩ = some (.slice (some ⟨ba, oa, none⟩) n2 c2) ∧ w'.cell? ⟨ba, oa + i, none⟩ = some (.int .i64 x) ∧ w'.cell? ⟨w2.heap.size, 1, none⟩ = some (.slice f.ga gn f.gc)) (by kernel_rfl) ?_ (fun hHeld => ?_)
              · exact HS.out _ (below_drewN bb 1)
              replace bb := below_drewN bb 1
              change Below _ _ wr.drew at bb
              generalize hw0 : wr.drew = W0 at hHeld bb ⊢
              clear hw0
              refine wpAnyH_take (i := 0) (v := ?_) (by simp only [List.getElem?_toArray]; rfl) (by kernel_rfl) (by kernel_rfl) (by kernel_rfl) (by exact fun _ _ _ h => h) (Or.inl ⟨by rfl, ?_⟩) (by assumption) ?_
              rotate_left 1
              · intro w hSw; (try dsimp only at hSw); go_simp; try with_reducible rfl
              try conv => arg 8; simp only [Act.put, List.setIfInBounds_toArray, List.set_cons_zero, List.set_cons_succ]
              refine wpAnyH_take (i := 1) (v := ?_) (by simp only [List.getElem?_toArray]; rfl) (by kernel_rfl) (by kernel_rfl) (by kernel_rfl) (by exact fun _ _ _ h => h) (Or.inl ⟨by rfl, ?_⟩) (by assumption) ?_
              rotate_left 1
              · intro w hSw; (try dsimp only at hSw); go_simp; try with_reducible rfl
              try conv => arg 8; simp only [Act.put, List.setIfInBounds_toArray, List.set_cons_zero, List.set_cons_succ]
              refine wpAnyH_take (i := 2) (v := ?_) (by simp only [List.getElem?_toArray]; rfl) (by kernel_rfl) (by kernel_rfl) (by kernel_rfl) (by exact fun _ _ _ h => h) (Or.inl ⟨by rfl, ?_⟩) (by assumption) ?_
              rotate_left 1
              · intro w hSw; (try dsimp only at hSw); go_simp; try with_reducible rfl
              try conv => arg 8; simp only [Act.put, List.setIfInBounds_toArray, List.set_cons_zero, List.set_cons_succ]
              refine wpAnyH_take (i := 4) (v := ?_) (by simp only [List.getElem?_toArray]; rfl) (by kernel_rfl) (by kernel_rfl) (by kernel_rfl) (by exact fun _ _ _ h => h) (Or.inl ⟨by rfl, ?_⟩) (by assumption) ?_
              rotate_left 1
              · intro w hSw; (try dsimp only at hSw); go_simp; try with_reducible rfl
              try conv => arg 8; simp only [Act.put, List.setIfInBounds_toArray, List.set_cons_zero, List.set_cons_succ]
              refine wpAnyH_take (i := 5) (v := ?_) (by simp only [List.getElem?_toArray]; rfl) (by kernel_rfl) (by kernel_rfl) (by kernel_rfl) (by exact fun _ _ _ h => h) (Or.inl ⟨by rfl, ?_⟩) (by assumption) ?_
              rotate_left 1
              · intro w hSw; (try dsimp only at hSw); go_simp; try with_reducible rfl
              try conv => arg 8; simp only [Act.put, List.setIfInBounds_toArray, List.set_cons_zero, List.set_cons_succ]
              refine wpAnyH_take (i := 6) (v := ?_) (by simp only [List.getElem?_toArray]; rfl) (by kernel_rfl) (by kernel_rfl) (by kernel_rfl) (by exact fun _ _ _ h => h) (Or.inl ⟨by rfl, ?_⟩) (by assumption) ?_
              rotate_left 1
              · intro w hSw; (try dsimp only at hSw); go_simp; try with_reducible rfl
              try conv => arg 8; simp only [Act.put, List.setIfInBounds_toArray, List.set_cons_zero, List.set_cons_succ]
              refine wpAnyH_take (i := 7) (v := ?_) (by simp only [List.getElem?_toArray]; rfl) (by kernel_rfl) (by kernel_rfl) (by kernel_rfl) (by exact fun _ _ _ h => h) (Or.inl ⟨by rfl, ?_⟩) (by assumption) ?_
              rotate_left 1
              · intro w hSw; (try dsimp only at hSw); go_simp; try with_reducible rfl
              try conv => arg 8; simp only [Act.put, List.setIfInBounds_toArray, List.set_cons_zero, List.set_cons_succ]
              refine wpAnyH_take (i := 8) (v := ?_) (by simp only [List.getElem?_toArray]; rfl) (by kernel_rfl) (by kernel_rfl) (by kernel_rfl) (by exact fun _ _ _ h => h) (Or.inl ⟨by rfl, ?_⟩) (by assumption) ?_
              rotate_left 1
              · intro w hSw; (try dsimp only at hSw); go_simp; try with_reducible rfl
              try conv => arg 8; simp only [Act.put, List.setIfInBounds_toArray, List.set_cons_zero, List.set_cons_succ]
              refine wpAnyH_take (i := 9) (v := ?_) (by simp only [List.getElem?_toArray]; rfl) (by kernel_rfl) (by kernel_rfl) (by kernel_rfl) (by exact fun _ _ _ h => h) (Or.inl ⟨by rfl, ?_⟩) (by assumption) ?_
              rotate_left 1
              · intro w hSw; (try dsimp only at hSw); go_simp; try with_reducible rfl
              try conv => arg 8; simp only [Act.put, List.setIfInBounds_toArray, List.set_cons_zero, List.set_cons_succ]
              refine wpAnyH_take (i := 10) (v := ?_) (by simp only [List.getElem?_toArray]; rfl) (by kernel_rfl) (by kernel_rfl) (by kernel_rfl) (by exact fun _ _ _ h => h) (Or.inl ⟨by rfl, ?_⟩) (by assumption) ?_
              rotate_left 1
              · intro w hSw; (try dsimp only at hSw); go_simp; try with_reducible rfl
              try conv => arg 8; simp only [Act.put, List.setIfInBounds_toArray, List.set_cons_zero, List.set_cons_succ]
              refine wpAnyH_take (i := 11) (v := ?_) (by simp only [List.getElem?_toArray]; rfl) (by kernel_rfl) (by kernel_rfl) (by kernel_rfl) (by exact fun _ _ _ h => h) (Or.inl ⟨by rfl, ?_⟩) (by assumption) ?_
              rotate_left 1
              · intro w hSw; (try dsimp only at hSw); go_simp; try with_reducible rfl
              try conv => arg 8; simp only [Act.put, List.setIfInBounds_toArray, List.set_cons_zero, List.set_cons_succ]
              refine wpAnyH_take (i := 12) (v := ?_) (by simp only [List.getElem?_toArray]; rfl) (by kernel_rfl) (by kernel_rfl) (by kernel_rfl) (by exact fun _ _ _ h => h) (Or.inl ⟨by rfl, ?_⟩) (by assumption) ?_
              rotate_left 1
              · intro w hSw; (try dsimp only at hSw); go_simp; try with_reducible rfl
              try conv => arg 8; simp only [Act.put, List.setIfInBounds_toArray, List.set_cons_zero, List.set_cons_succ]
              refine wpAnyH_take (i := 13) (v := ?_) (by simp only [List.getElem?_toArray]; rfl) (by kernel_rfl) (by kernel_rfl) (by kernel_rfl) (by exact fun _ _ _ h => h) (Or.inl ⟨by rfl, ?_⟩) (by assumption) ?_
              rotate_left 1
              · intro w hSw; (try dsimp only at hSw); go_simp; try with_reducible rfl
              try conv => arg 8; simp only [Act.put, List.setIfInBounds_toArray, List.set_cons_zero, List.set_cons_succ]
              refine wpAnyH_take (i := 14) (v := ?_) (by simp only [List.getElem?_toArray]; rfl) (by kernel_rfl) (by kernel_rfl) (by kernel_rfl) (by exact fun _ _ _ h => h) (Or.inl ⟨by rfl, ?_⟩) (by assumption) ?_
              rotate_left 1
              · intro w hSw; (try dsimp only at hSw); go_simp; try with_reducible rfl
              try conv => arg 8; simp only [Act.put, List.setIfInBounds_toArray, List.set_cons_zero, List.set_cons_succ]
              refine wpAnyH_ready (rs := [3, 15]) (by kernel_rfl) (by simp) ?_
              refine AllReadyH.cons (by simp only [List.getElem?_toArray]; rfl) (fun K hK => ?_) (AllReadyH.cons (by simp only [List.getElem?_toArray]; rfl) (fun K hK => ?_) AllReadyH.nil)
              · have yL := cell_call yw bb
                refine wanted_pos (by kernel_rfl) ?_
                go_simp
                clear hHeld
                refine hK.out _ _ ?_ (fun hHeld => ?_)
                · exact HS.out _ bb
                clear hK K
                try conv => arg 8; simp only [Act.put, List.setIfInBounds_toArray, List.set_cons_zero, List.set_cons_succ]
                clear yL
                refine wpAnyH_ready (rs := [15]) (by kernel_rfl) (by simp) ?_
                refine AllReadyH.cons (by simp only [List.getElem?_toArray]; rfl) (fun K hK => ?_) AllReadyH.nil
                refine wanted_pos (by kernel_rfl) ?_
                go_simp
                clear hHeld
                refine hK.out _ _ ?_ (fun hHeld => ?_)
                · exact HS.out _ (below_lit _ _ bb _)
                clear hK K
                try conv => arg 8; simp only [Act.put, List.setIfInBounds_toArray, List.set_cons_zero, List.set_cons_succ]
                refine wpAnyH_ready (rs := [16]) (by kernel_rfl) (by simp) ?_
                refine AllReadyH.cons (by simp only [List.getElem?_toArray]; rfl) (fun K hK => ?_) AllReadyH.nil
                clear hHeld
                have how := (HSS.out.o1.call bb).alloc (.cells #[.int .i64 z] 3)
                have hnw := news_new W0 [.int .i64 z] 3
                have hs2 : w4.heap.size + 1 + 1 ≤ (W0.alloc (.cells #[.int .i64 z] 3)).heap.size := by rw [World.size_alloc]; have h1 := HSS.out.kw.lt; have h2 := bb.size; omega
                refine appStep elt_int (by kernel_rfl) _ _ rfl (W0.alloc (.cells #[.int .i64 z] 3)) (w4.heap.size + 1 + 1) _ _ _ (ic (modG gn (l2.take i))) _ 1 1 [.int .i64 z] (by rfl) (by rfl) how rfl hnw (by simp [Value.oneCell']) (by omega) hs2 ?_
                intro A' d' W4 ho4 hg4 hb4 hat4
                have hp := HSS.out.push1 bb ho4 hg4 hb4 hat4
                have hfar := say_far HSS.out bb hg4 (fun b e => (HSS.out.o1.blk b e).1)
                have hlo : ∀ b, b < w.heap.size → W4.heap[b]? = wr.heap[b]? := fun b hb => hfar.1 b (by have := HSS.out.lt.1; have := HSS.out.lt.2.1; omega)
                have kw4 : Bk W4 (w4.heap.size + 1) 71 _ := (hfar.1 _ (Nat.le_refl _)).trans HSS.out.kw
                have kx4 : Bk W4 w.heap.size 71 _ := (hfar.1 _ (Nat.le_of_lt HSS.out.lt.2.1)).trans HSS.out.kx
                have kf4 : Bk W4 w2.heap.size 33 _ := (hfar.1 _ (Nat.le_of_lt HSS.out.lt.2.2.1)).trans HSS.out.kf
                have yw4 := box_cells kw4 1 rfl
                have fw4 := kw4.frozen 1
                refine hK.out _ _ ?_ (fun hHeld => ?_)
                · exact ⟨box_cells kx4 1 rfl, (World.cell?_of_block (a := ⟨ba, oa + i, none⟩) (hlo ba hba)).trans xe, (box_cells kf4 1 rfl).trans YF.out⟩
                clear hK K
                try conv => arg 8; simp only [Act.put, List.setIfInBounds_toArray, List.set_cons_zero, List.set_cons_succ]
                refine wpAnyH_take (i := 17) (v := ?_) (by simp only [List.getElem?_toArray]; rfl) (by kernel_rfl) (by kernel_rfl) (by kernel_rfl) (by exact fun _ _ _ h => h) (Or.inl ⟨by rfl, ?_⟩) (by assumption) ?_
                rotate_left 1
                · intro w hSw; (try dsimp only at hSw); go_simp; try with_reducible rfl
                try conv => arg 8; simp only [Act.put, List.setIfInBounds_toArray, List.set_cons_zero, List.set_cons_succ]
                refine wpAnyH_ready (rs := [18]) (by kernel_rfl) (by simp) ?_
                refine AllReadyH.cons (by simp only [List.getElem?_toArray]; rfl) (fun K hK => ?_) AllReadyH.nil
                refine wanted_pos (by kernel_rfl) ?_
                go_simp
                clear hHeld
                refine hK.out _ _ ?_ (fun hHeld => ?_)
                · refine ⟨box_cells hp.kx 1 rfl, ?_, (box_cells hp.kf 1 rfl).trans YF.out⟩
                  exact (World.cell?_of_block (a := ⟨ba, oa + i, none⟩) ((Below.heap_setCell _ ⟨w4.heap.size + 1, 1, none⟩ _ ba (by have := HSS.out.lt.1; have := HSS.out.lt.2.1; show ba ≠ w4.heap.size + 1; omega)).trans (hlo ba hba))).trans xe
                clear hK K
                try conv => arg 8; simp only [Act.put, List.setIfInBounds_toArray, List.set_cons_zero, List.set_cons_succ]
                refine wpAnyH_done (by kernel_rfl) ?_ _
                clear hHeld yw4 fw4 kw4 kx4 kf4 how hnw
                have bz := hp.bl
                go_wp2_with fail
                go_roundw
                case rel => exact ⟨i + 1, by omega, by omega, by omega, A', d', by rw [HMG.out]; exact hp⟩
                case measure => simp [intOf]; omega

              · refine wanted_pos (by kernel_rfl) ?_
                go_simp
                clear hHeld
                refine hK.out _ _ ?_ (fun hHeld => ?_)
                · exact HS.out _ (below_lit _ _ bb _)
                clear hK K
                try conv => arg 8; simp only [Act.put, List.setIfInBounds_toArray, List.set_cons_zero, List.set_cons_succ]
                refine wpAnyH_ready (rs := [3]) (by kernel_rfl) (by simp) ?_
                refine AllReadyH.cons (by simp only [List.getElem?_toArray]; rfl) (fun K hK => ?_) AllReadyH.nil
                have yL := cell_alloc (cell_call yw bb) (.cells #[.int .i64 z] 3)
                refine wanted_pos (by kernel_rfl) ?_
                go_simp
                clear hHeld
                refine hK.out _ _ ?_ (fun hHeld => ?_)
                · exact HS.out _ (below_lit _ _ bb _)
                clear hK K
                try conv => arg 8; simp only [Act.put, List.setIfInBounds_toArray, List.set_cons_zero, List.set_cons_succ]
                clear yL
                refine wpAnyH_ready (rs := [16]) (by kernel_rfl) (by simp) ?_
                refine AllReadyH.cons (by simp only [List.getElem?_toArray]; rfl) (fun K hK => ?_) AllReadyH.nil
                clear hHeld
                have how := (HSS.out.o1.call bb).alloc (.cells #[.int .i64 z] 3)
                have hnw := news_new W0 [.int .i64 z] 3
                have hs2 : w4.heap.size + 1 + 1 ≤ (W0.alloc (.cells #[.int .i64 z] 3)).heap.size := by rw [World.size_alloc]; have h1 := HSS.out.kw.lt; have h2 := bb.size; omega
                refine appStep elt_int (by kernel_rfl) _ _ rfl (W0.alloc (.cells #[.int .i64 z] 3)) (w4.heap.size + 1 + 1) _ _ _ (ic (modG gn (l2.take i))) _ 1 1 [.int .i64 z] (by rfl) (by rfl) how rfl hnw (by simp [Value.oneCell']) (by omega) hs2 ?_
                intro A' d' W4 ho4 hg4 hb4 hat4
                have hp := HSS.out.push1 bb ho4 hg4 hb4 hat4
                have hfar := say_far HSS.out bb hg4 (fun b e => (HSS.out.o1.blk b e).1)
                have hlo : ∀ b, b < w.heap.size → W4.heap[b]? = wr.heap[b]? := fun b hb => hfar.1 b (by have := HSS.out.lt.1; have := HSS.out.lt.2.1; omega)
                have kw4 : Bk W4 (w4.heap.size + 1) 71 _ := (hfar.1 _ (Nat.le_refl _)).trans HSS.out.kw
                have kx4 : Bk W4 w.heap.size 71 _ := (hfar.1 _ (Nat.le_of_lt HSS.out.lt.2.1)).trans HSS.out.kx
                have kf4 : Bk W4 w2.heap.size 33 _ := (hfar.1 _ (Nat.le_of_lt HSS.out.lt.2.2.1)).trans HSS.out.kf
                have yw4 := box_cells kw4 1 rfl
                have fw4 := kw4.frozen 1
                refine hK.out _ _ ?_ (fun hHeld => ?_)
                · exact ⟨box_cells kx4 1 rfl, (World.cell?_of_block (a := ⟨ba, oa + i, none⟩) (hlo ba hba)).trans xe, (box_cells kf4 1 rfl).trans YF.out⟩
                clear hK K
                try conv => arg 8; simp only [Act.put, List.setIfInBounds_toArray, List.set_cons_zero, List.set_cons_succ]
                refine wpAnyH_take (i := 17) (v := ?_) (by simp only [List.getElem?_toArray]; rfl) (by kernel_rfl) (by kernel_rfl) (by kernel_rfl) (by exact fun _ _ _ h => h) (Or.inl ⟨by rfl, ?_⟩) (by assumption) ?_
                rotate_left 1
                · intro w hSw; (try dsimp only at hSw); go_simp; try with_reducible rfl
                try conv => arg 8; simp only [Act.put, List.setIfInBounds_toArray, List.set_cons_zero, List.set_cons_succ]
                refine wpAnyH_ready (rs := [18]) (by kernel_rfl) (by simp) ?_
                refine AllReadyH.cons (by simp only [List.getElem?_toArray]; rfl) (fun K hK => ?_) AllReadyH.nil
                refine wanted_pos (by kernel_rfl) ?_
                go_simp
                clear hHeld
                refine hK.out _ _ ?_ (fun hHeld => ?_)
                · refine ⟨box_cells hp.kx 1 rfl, ?_, (box_cells hp.kf 1 rfl).trans YF.out⟩
                  exact (World.cell?_of_block (a := ⟨ba, oa + i, none⟩) ((Below.heap_setCell _ ⟨w4.heap.size + 1, 1, none⟩ _ ba (by have := HSS.out.lt.1; have := HSS.out.lt.2.1; show ba ≠ w4.heap.size + 1; omega)).trans (hlo ba hba))).trans xe
                clear hK K
                try conv => arg 8; simp only [Act.put, List.setIfInBounds_toArray, List.set_cons_zero, List.set_cons_succ]
                refine wpAnyH_done (by kernel_rfl) ?_ _
                clear hHeld yw4 fw4 kw4 kx4 kf4 how hnw
                have bz := hp.bl
                go_wp2_with fail
                go_roundw
                case rel => exact ⟨i + 1, by omega, by omega, by omega, A', d', by rw [HMG.out]; exact hp⟩
                case measure => simp [intOf]; omega

            · have i10 : ¬ (i : Int) < 10 := by omega
              have htk : l2.take i = l2.take 10 := by rw [show i = 10 by omega]
              rw [htk] at hss
              go_wp2_with fail
              go_roundw
              case rel => exact ⟨2, by omega, by go_num, _, _, _, _, _, _, _, _, hss, HY0.out, rfl⟩
              case measure => simp [intOf]
          · have inn : ¬ (i : Int) < (n2 : Int) := by omega
            have htk : l2.take i = l2.take 10 := by rw [List.take_of_length_le (show l2.length ≤ 10 by rw [L2.out]; omega), List.take_of_length_le (show l2.length ≤ i by rw [L2.out]; omega)]
            rw [htk] at hss
            go_wp2_with fail
            go_roundw
            case rel => exact ⟨2, by omega, by go_num, _, _, _, _, _, _, _, _, hss, HY0.out, rfl⟩
            case measure => simp [intOf]

      · obtain rfl : k = 2 := by omega
        rw [if_neg (by omega)] at hy0
        rw [if_pos rfl] at hy1
        clear k0 k1 hk2
        have hb0 : ∀ g ∈ y0, 0 ≤ g ∧ g < (gn : Int) := by rw [hy0]; exact modG_ok hgn0 _
        have hb1 : ∀ g ∈ y1, 0 ≤ g ∧ g < (gn : Int) := by rw [hy1]; exact modG_ok hgn0 _
        have s0 := (built_says HAU.out y0 hb0).2
        have s1 := (built_says HAU.out y1 hb1).1
        have hl0 : m0 ≤ 9223372036854775807 := by have := hss.o0.cap; omega
        have hl1 : m1 ≤ 9223372036854775807 := by have := hss.o1.cap; omega
        have HL := Lib.hid (And.intro hss.o0.cap hss.o1.cap)
        obtain ⟨X, hX⟩ : ∃ x, saysB true (madeR rs) y0 = x := ⟨_, rfl⟩
        obtain ⟨Y, hY⟩ : ∃ x, saysB false (madeR rs) y1 = x := ⟨_, rfl⟩
        rw [hX] at s0
        rw [hY] at s1
        have hXl : X < 18446744073709551616 := by rw [← s0]; exact hss.fAw.back_lt y0
        have hYl : Y < 18446744073709551616 := by rw [← s1]; exact hss.fAw.fore_lt y1
        have hand := bits_and_u64_nat X Y hXl hYl
        have HXY := Lib.hid (And.intro (And.intro hX hY) (And.intro s0 s1))
        clear hy0 hy1 hb0 hb1 s0 s1 hXl hYl
        have hL := hss.fFw.2.1
        have hll : f.ln = 1 := hL.len.symm
        obtain ⟨bl, ol, hla, hbl, hc⟩ := hL.pos (by omega)
        obtain ⟨cs, hE, hcc⟩ := hc 0 ⟨4, false, madeR rs⟩ rfl
        have HE := Lib.hid hE
        obtain ⟨qa, qn, qc, rfl, _, _⟩ := hE
        have z0 := hcc 0 _ rfl
        have z1 := hcc 1 _ rfl
        have z2 := hcc 2 _ rfl
        simp only [Nat.zero_mul, Nat.add_zero] at z0 z1 z2
        have HLA := Lib.hid (show some (Value.slice f.la f.ln f.lc) = some (.slice (some ⟨bl, ol, none⟩) 1 f.lc) by rw [hla, hll])
        clear hL hc hcc hla hll hbl
        have yf := (box_cells hss.kf 3 rfl).trans HLA.out
        have yw := box_cells hss.kw 0 rfl
        have HBG := Lib.hid fun (W : World) (bW : Below wr.heap.size wr W) => dbegins_c _ ⟨4, false, madeR rs⟩ true B0 m0 d0 y0 W (ELk.mono HE.out (lo_mono bW.size) (kept_below bW)) (hss.o0.call bW).rd HL.out.1 (made_sm rs)
        dsimp only at HBG
        rw [HXY.out.1.1] at HBG
        go_upto_region 14 with fail
        have HS := Lib.hid fun (W : World) (bW : Below wr.heap.size wr W) => (show W.cell? ⟨w2.heap.size, 3, none⟩ = some (.slice (some ⟨bl, ol, none⟩) 1 f.lc) ∧ W.cell? ⟨bl, ol, none⟩ = some (.int .i64 4) ∧ W.cell? ⟨bl, ol + 1, none⟩ = some (.bool false) ∧ W.cell? ⟨bl, ol + 2, none⟩ = some (.slice qa qn qc) ∧ W.cell? ⟨w4.heap.size + 1, 0, none⟩ = some (.slice B0 m0 d0) from ⟨cell_call yf bW, cell_call z0 bW, cell_call z1 bW, cell_call z2 bW, cell_call yw bW⟩)
        have bb := Below.refl wr.heap.size wr
        refine wp_region_held_drew (S := fun w' => w'.cell? ⟨w2.heap.size, 3, none⟩ = some (.slice (some ⟨bl, ol, none⟩) 1 f.lc) ∧ w'.cell? ⟨bl, ol, none⟩ = some (.int .i64 4) ∧ w'.cell? ⟨bl, ol + 1, none⟩ = some (.bool false) ∧ w'.cell? ⟨bl, ol + 2, none⟩ = some (.slice qa qn qc) ∧ w'.cell? ⟨w4.heap.size + 1, 0, none⟩ = some (.slice B0 m0 d0)) (by kernel_rfl) ?_ (fun hHeld => ?_)
        · exact HS.out _ (below_drewN bb 1)
        replace bb := below_drewN bb 1
        change Below _ _ wr.drew at bb
        generalize hw0 : wr.drew = W0 at hHeld bb ⊢
        clear hw0
        refine wpAnyH_take (i := 0) (v := ?_) (by simp only [List.getElem?_toArray]; rfl) (by kernel_rfl) (by kernel_rfl) (by kernel_rfl) (by exact fun _ _ _ h => h) (Or.inl ⟨by rfl, ?_⟩) (by assumption) ?_
        rotate_left 1
        · intro w hSw; (try dsimp only at hSw); go_simp; try with_reducible rfl
        try conv => arg 8; simp only [Act.put, List.setIfInBounds_toArray, List.set_cons_zero, List.set_cons_succ]
        refine wpAnyH_take (i := 1) (v := ?_) (by simp only [List.getElem?_toArray]; rfl) (by kernel_rfl) (by kernel_rfl) (by kernel_rfl) (by exact fun _ _ _ h => h) (Or.inl ⟨by rfl, ?_⟩) (by assumption) ?_
        rotate_left 1
        · intro w hSw; (try dsimp only at hSw); go_simp; try with_reducible rfl
        try conv => arg 8; simp only [Act.put, List.setIfInBounds_toArray, List.set_cons_zero, List.set_cons_succ]
        refine wpAnyH_take (i := 2) (v := ?_) (by simp only [List.getElem?_toArray]; rfl) (by kernel_rfl) (by kernel_rfl) (by kernel_rfl) (by exact fun _ _ _ h => h) (Or.inl ⟨by rfl, ?_⟩) (by assumption) ?_
        rotate_left 1
        · intro w hSw; (try dsimp only at hSw); go_simp; try with_reducible rfl
        try conv => arg 8; simp only [Act.put, List.setIfInBounds_toArray, List.set_cons_zero, List.set_cons_succ]
        refine wpAnyH_take (i := 3) (v := ?_) (by simp only [List.getElem?_toArray]; rfl) (by kernel_rfl) (by kernel_rfl) (by kernel_rfl) (by exact fun _ _ _ h => h) (Or.inl ⟨by rfl, ?_⟩) (by assumption) ?_
        rotate_left 1
        · intro w hSw; (try dsimp only at hSw); go_simp; try with_reducible rfl
        try conv => arg 8; simp only [Act.put, List.setIfInBounds_toArray, List.set_cons_zero, List.set_cons_succ]
        refine wpAnyH_take (i := 4) (v := ?_) (by simp only [List.getElem?_toArray]; rfl) (by kernel_rfl) (by kernel_rfl) (by kernel_rfl) (by exact fun _ _ _ h => h) (Or.inl ⟨by rfl, ?_⟩) (by assumption) ?_
        rotate_left 1
        · intro w hSw; (try dsimp only at hSw); go_simp; try with_reducible rfl
        try conv => arg 8; simp only [Act.put, List.setIfInBounds_toArray, List.set_cons_zero, List.set_cons_succ]
        refine wpAnyH_take (i := 5) (v := ?_) (by simp only [List.getElem?_toArray]; rfl) (by kernel_rfl) (by kernel_rfl) (by kernel_rfl) (by exact fun _ _ _ h => h) (Or.inl ⟨by rfl, ?_⟩) (by assumption) ?_
        rotate_left 1
        · intro w hSw; (try dsimp only at hSw); go_simp; try with_reducible rfl
        try conv => arg 8; simp only [Act.put, List.setIfInBounds_toArray, List.set_cons_zero, List.set_cons_succ]
        refine wpAnyH_ready (rs := [6]) (by kernel_rfl) (by simp) ?_
        refine AllReadyH.cons (by simp only [List.getElem?_toArray]; rfl) (fun K hK => ?_) AllReadyH.nil
        refine wanted_pos (by kernel_rfl) ?_
        go_simp
        clear hHeld
        go_at_call 31
        (with_reducible refine (HBG.out _ bb).mono ?_)
        rintro e w7 ⟨rfl, bn⟩
        go_wp2_with fail
        refine hK.out _ _ ?_ (fun hHeld => ?_)
        · exact HS.out _ (bb.trans (bn.mono bb.size))
        clear hK K
        try conv => arg 8; simp only [Act.put, List.setIfInBounds_toArray, List.set_cons_zero, List.set_cons_succ]
        replace bb := bb.trans (bn.mono bb.size)
        clear bn
        refine wpAnyH_take (i := 7) (v := ?_) (by simp only [List.getElem?_toArray]; rfl) (by kernel_rfl) (by kernel_rfl) (by kernel_rfl) (by exact fun _ _ _ h => h) (Or.inl ⟨by rfl, ?_⟩) (by assumption) ?_
        rotate_left 1
        · intro w hSw; (try dsimp only at hSw); go_simp; try with_reducible rfl
        try conv => arg 8; simp only [Act.put, List.setIfInBounds_toArray, List.set_cons_zero, List.set_cons_succ]
        refine wpAnyH_done (by kernel_rfl) ?_ _
        replace hss := hss.call bb
        replace z0 := cell_call z0 bb
        replace z1 := cell_call z1 bb
        replace z2 := cell_call z2 bb
        replace HE := Lib.hid (ELk.mono HE.out (lo_mono bb.size) (kept_below bb))
        clear HBG HS bb hHeld yf yw
        have yf := (box_cells hss.kf 3 rfl).trans HLA.out
        have yw := box_cells hss.kw 1 rfl
        have HBG := Lib.hid fun (W : World) (bW : Below w7.heap.size w7 W) => dbegins_c _ ⟨4, false, madeR rs⟩ false B1 m1 d1 y1 W (ELk.mono HE.out (lo_mono bW.size) (kept_below bW)) (hss.o1.call bW).rd HL.out.2 (made_sm rs)
        dsimp only at HBG
        rw [HXY.out.1.2] at HBG
        go_upto_region 15 with fail
        have HS := Lib.hid fun (W : World) (bW : Below w7.heap.size w7 W) => (show W.cell? ⟨w2.heap.size, 3, none⟩ = some (.slice (some ⟨bl, ol, none⟩) 1 f.lc) ∧ W.cell? ⟨bl, ol, none⟩ = some (.int .i64 4) ∧ W.cell? ⟨bl, ol + 1, none⟩ = some (.bool false) ∧ W.cell? ⟨bl, ol + 2, none⟩ = some (.slice qa qn qc) ∧ W.cell? ⟨w4.heap.size + 1, 1, none⟩ = some (.slice B1 m1 d1) from ⟨cell_call yf bW, cell_call z0 bW, cell_call z1 bW, cell_call z2 bW, cell_call yw bW⟩)
        have bb := Below.refl w7.heap.size w7
        refine wp_region_held_drew (S := fun w' => w'.cell? ⟨w2.heap.size, 3, none⟩ = some (.slice (some ⟨bl, ol, none⟩) 1 f.lc) ∧ w'.cell? ⟨bl, ol, none⟩ = some (.int .i64 4) ∧ w'.cell? ⟨bl, ol + 1, none⟩ = some (.bool false) ∧ w'.cell? ⟨bl, ol + 2, none⟩ = some (.slice qa qn qc) ∧ w'.cell? ⟨w4.heap.size + 1, 1, none⟩ = some (.slice B1 m1 d1)) (by kernel_rfl) ?_ (fun hHeld => ?_)
        · exact HS.out _ (below_drewN bb 1)
        replace bb := below_drewN bb 1
        change Below _ _ w7.drew at bb
        generalize hw0 : w7.drew = W0 at hHeld bb ⊢
        clear hw0
        refine wpAnyH_take (i := 0) (v := ?_) (by simp only [List.getElem?_toArray]; rfl) (by kernel_rfl) (by kernel_rfl) (by kernel_rfl) (by exact fun _ _ _ h => h) (Or.inl ⟨by rfl, ?_⟩) (by assumption) ?_
        rotate_left 1
        · intro w hSw; (try dsimp only at hSw); go_simp; try with_reducible rfl
        try conv => arg 8; simp only [Act.put, List.setIfInBounds_toArray, List.set_cons_zero, List.set_cons_succ]
        refine wpAnyH_take (i := 1) (v := ?_) (by simp only [List.getElem?_toArray]; rfl) (by kernel_rfl) (by kernel_rfl) (by kernel_rfl) (by exact fun _ _ _ h => h) (Or.inl ⟨by rfl, ?_⟩) (by assumption) ?_
        rotate_left 1
        · intro w hSw; (try dsimp only at hSw); go_simp; try with_reducible rfl
        try conv => arg 8; simp only [Act.put, List.setIfInBounds_toArray, List.set_cons_zero, List.set_cons_succ]
        refine wpAnyH_take (i := 2) (v := ?_) (by simp only [List.getElem?_toArray]; rfl) (by kernel_rfl) (by kernel_rfl) (by kernel_rfl) (by exact fun _ _ _ h => h) (Or.inl ⟨by rfl, ?_⟩) (by assumption) ?_
        rotate_left 1
        · intro w hSw; (try dsimp only at hSw); go_simp; try with_reducible rfl
        try conv => arg 8; simp only [Act.put, List.setIfInBounds_toArray, List.set_cons_zero, List.set_cons_succ]
        refine wpAnyH_take (i := 3) (v := ?_) (by simp only [List.getElem?_toArray]; rfl) (by kernel_rfl) (by kernel_rfl) (by kernel_rfl) (by exact fun _ _ _ h => h) (Or.inl ⟨by rfl, ?_⟩) (by assumption) ?_
        rotate_left 1
        · intro w hSw; (try dsimp only at hSw); go_simp; try with_reducible rfl
        try conv => arg 8; simp only [Act.put, List.setIfInBounds_toArray, List.set_cons_zero, List.set_cons_succ]
        refine wpAnyH_take (i := 4) (v := ?_) (by simp only [List.getElem?_toArray]; rfl) (by kernel_rfl) (by kernel_rfl) (by kernel_rfl) (by exact fun _ _ _ h => h) (Or.inl ⟨by rfl, ?_⟩) (by assumption) ?_
        rotate_left 1
        · intro w hSw; (try dsimp only at hSw); go_simp; try with_reducible rfl
        try conv => arg 8; simp only [Act.put, List.setIfInBounds_toArray, List.set_cons_zero, List.set_cons_succ]
        refine wpAnyH_take (i := 5) (v := ?_) (by simp only [List.getElem?_toArray]; rfl) (by kernel_rfl) (by kernel_rfl) (by kernel_rfl) (by exact fun _ _ _ h => h) (Or.inl ⟨by rfl, ?_⟩) (by assumption) ?_
        rotate_left 1
        · intro w hSw; (try dsimp only at hSw); go_simp; try with_reducible rfl
        try conv => arg 8; simp only [Act.put, List.setIfInBounds_toArray, List.set_cons_zero, List.set_cons_succ]
        refine wpAnyH_ready (rs := [6]) (by kernel_rfl) (by simp) ?_
        refine AllReadyH.cons (by simp only [List.getElem?_toArray]; rfl) (fun K hK => ?_) AllReadyH.nil
        refine wanted_pos (by kernel_rfl) ?_
        go_simp
        clear hHeld
        go_at_call 31
        (with_reducible refine (HBG.out _ bb).mono ?_)
        rintro e w8 ⟨rfl, bn⟩
        go_wp2_with fail
        refine hK.out _ _ ?_ (fun hHeld => ?_)
        · exact HS.out _ (bb.trans (bn.mono bb.size))
        clear hK K
        try conv => arg 8; simp only [Act.put, List.setIfInBounds_toArray, List.set_cons_zero, List.set_cons_succ]
        replace bb := bb.trans (bn.mono bb.size)
        clear bn
        refine wpAnyH_take (i := 7) (v := ?_) (by simp only [List.getElem?_toArray]; rfl) (by kernel_rfl) (by kernel_rfl) (by kernel_rfl) (by exact fun _ _ _ h => h) (Or.inl ⟨by rfl, ?_⟩) (by assumption) ?_
        rotate_left 1
        · intro w hSw; (try dsimp only at hSw); go_simp; try with_reducible rfl
        try conv => arg 8; simp only [Act.put, List.setIfInBounds_toArray, List.set_cons_zero, List.set_cons_succ]
        refine wpAnyH_done (by kernel_rfl) ?_ _
        replace hss := hss.call bb
        replace z0 := cell_call z0 bb
        replace z1 := cell_call z1 bb
        replace z2 := cell_call z2 bb
        replace HE := Lib.hid (ELk.mono HE.out (lo_mono bb.size) (kept_below bb))
        clear HBG HS bb hHeld yf yw
        clear z0 z1 z2 HE HLA
        have a0 := box_cells hss.ka 0 rfl
        have a1 := box_cells hss.ka 1 rfl
        have a2 := box_cells hss.ka 2 rfl
        have a3 := box_cells hss.ka 3 rfl
        have a4 := box_cells hss.ka 4 rfl
        have u0 := box_cells hss.kw 0 rfl
        have u1 := box_cells hss.kw 1 rfl
        have HC := Lib.hid (Back_c v a B0 m0 d0 y0 w8 hss.fAw hss.o0.rd hl0)
        rw [HXY.out.2.1] at HC
        unfold AV.cells at HC
        go_wp2_with fail
        refine HC.out.mono ?_
        rintro e w9 ⟨rfl, bn⟩
        clear HC
        replace hss := hss.call bn
        clear bn
        clear a0 a1 a2 a3 a4 u0 u1
        have a0 := box_cells hss.ka 0 rfl
        have a1 := box_cells hss.ka 1 rfl
        have a2 := box_cells hss.ka 2 rfl
        have a3 := box_cells hss.ka 3 rfl
        have a4 := box_cells hss.ka 4 rfl
        have u0 := box_cells hss.kw 0 rfl
        have u1 := box_cells hss.kw 1 rfl
        have HC := Lib.hid (Fore_c v a B1 m1 d1 y1 w9 hss.fAw hss.o1.rd hl1)
        rw [HXY.out.2.2] at HC
        unfold AV.cells at HC
        go_wp2_with fail
        refine HC.out.mono ?_
        rintro e w10 ⟨rfl, bn⟩
        clear HC
        replace hss := hss.call bn
        clear bn
        clear a0 a1 a2 a3 a4 u0 u1
        have a0 := box_cells hss.ka 0 rfl
        have a1 := box_cells hss.ka 1 rfl
        have a2 := box_cells hss.ka 2 rfl
        have a3 := box_cells hss.ka 3 rfl
        have a4 := box_cells hss.ka 4 rfl
        have u0 := box_cells hss.kw 0 rfl
        have u1 := box_cells hss.kw 1 rfl
        have HC := Lib.hid (First_c v a B0 B1 m0 d0 m1 d1 y0 y1 w10 hss.fAw hss.o0.rd hss.o1.rd hl0 hl1 (HTT.out w10 hss.bl))
        rw [HXY.out.2.1, HXY.out.2.2] at HC
        unfold AV.cells at HC
        go_wp2_with fail
        refine HC.out.mono ?_
        rintro e w11 ⟨rfl, bn⟩
        clear HC
        replace hss := hss.call bn
        clear bn
        clear a0 a1 a2 a3 a4 u0 u1
        have HC := Lib.hid (dleast_c (X &&& Y) w11)
        have bl := hss.bl
        clear hss
        go_wp2_with fail
        refine HC.out.mono ?_
        rintro e w12 ⟨rfl, rfl⟩
        clear HC
        go_wp2
        go_ret
        exact ⟨rfl, bl⟩



end Go.Proofs.YtgcmedkaadagmaaDoor
