/- Walks: the laws' font, of rules of their own: made. -/
import Derived.Test.YtgcmedkaadagmaaDoorTk
import Derived.Test.YtgcmedkaadagmaaDoorL8
namespace Go.Proofs.YtgcmedkaadagmaaDoor
open Go.RowKit Go.Shelf Go.Maps

theorem rdG_madeS {w : World} {base n c : Nat} {A : Option Addr} (h : Ow 85 9 w base A n c (madeCells zGly.cells (n * 9)).toList) : RdG w (fun b => base ≤ b ∧ b < w.heap.size) A n (List.replicate n gl0) := by
 have h1 := rdG_made h
 refine ⟨h1.1, fun hn => ?_⟩
 obtain ⟨b, o, e, _, hc⟩ := h1.2 hn
 refine ⟨b, o, e, h.lt b o none e, fun i x hx => ?_⟩
 have hxe : x = gl0 := by
  rw [List.getElem?_replicate] at hx
  split at hx
  ·injection hx with hx; exact hx.symm
  ·cases hx
 obtain ⟨cs, h3, h4⟩ := hc i x hx
 obtain ⟨u0, u1, u3, u4, u5, a, m, c, u7, u8, e1, h5, h6⟩ := h3
 have hm : m = 0 := by have := h5.1; rw [hxe] at this; simpa [gl0] using this.symm
 subst hm
 have hanc : x.anc = [] := by rw [hxe]; rfl
 rw [hanc] at h5
 exact ⟨cs, ⟨u0, u1, u3, u4, u5, a, 0, c, u7, u8, e1, by rw [hanc]; exact SlE.nil, h6⟩, h4⟩
theorem and7 (z : Int) : bits .and .i64 z 7 = z % 8 := by
 show IntKind.i64.wrap ((BitVec.ofInt 64 z &&& BitVec.ofInt 64 (7 : Int)).toNat : Int) = _
 have e2 : (BitVec.ofInt 64 (7 : Int)).toNat = 7 := by decide
 rw [BitVec.toNat_and, e2, IntKind.wrap_i64]
 have h : (BitVec.ofInt 64 z).toNat &&& 7 = (BitVec.ofInt 64 z).toNat % 8 := Nat.and_two_pow_sub_one_eq_mod _ 3
 rw [h, BitVec.toNat_ofInt]
 omega
/-- How many glyphs. -/
def glyN (z : Int) : Nat := (z % 8).toNat + 1
theorem glyN_le (z : Int) : glyN z ≤ 8 := by unfold glyN; omega
theorem glyN_pos (z : Int) : 0 < glyN z := by unfold glyN; omega
theorem rdV_keep {W W' : World} {B n : Nat} {A : Option Addr} {xss : List (List Int)} (h : RdV W (fun b => B ≤ b ∧ b < W.heap.size) A n xss) (hb : Below W.heap.size W W') : RdV W' (fun b => B ≤ b ∧ b < W'.heap.size) A n xss :=
 h.mono (fun _ hx => ⟨hx.1, Nat.lt_of_lt_of_le hx.2 hb.size⟩) (fun b hx => hb.block b hx.2)
theorem rdV_lower {W : World} {B B' n : Nat} {A : Option Addr} {xss : List (List Int)} (h : RdV W (fun b => B ≤ b ∧ b < W.heap.size) A n xss) (hb : B' ≤ B) : RdV W (fun b => B' ≤ b ∧ b < W.heap.size) A n xss :=
 h.mono (fun _ hx => ⟨Nat.le_trans hb hx.1, hx.2⟩) (Kept.refl _ _)
theorem isF_keep {W W' : World} {B : Nat} {f : FV} {F : Fnt} (h : IsF W (fun b => B ≤ b ∧ b < W.heap.size) f F) (hb : Below W.heap.size W W') : IsF W' (fun b => B ≤ b ∧ b < W'.heap.size) f F :=
 h.mono (fun _ hx => ⟨hx.1, Nat.lt_of_lt_of_le hx.2 hb.size⟩) (fun b hx => hb.block b hx.2)

def FontS (S : Nat → Prop) (w : World) (n : Nat) (rs : List Rul) (e : Ending) (w' : World) : Prop := ∃ f : FV, e = .returned (.agg f.cells) ∧ IsF w' (fun b => S b ∨ (w.heap.size ≤ b ∧ b < w'.heap.size)) f (fontF n rs) ∧ Below w.heap.size w w'
set_option maxRecDepth 100000 in
set_option maxHeartbeats 2000000 in
theorem fontS_c (S : Nat → Prop) (n : Nat) (qa : Option Addr) (qn qc : Nat) (rs : List Rul) (w : World) (hS : ∀ b, S b → b < w.heap.size) (hR : RdR w S qa qn rs) (hq : Hd qn qc) (hn : n ≤ 100000) :
  Calls Tryd.prog 25 #[.int .i64 (n : Int), .slice qa qn qc] w (FontS S w n rs) := by
 have b1 : Below w.heap.size w (w.alloc (.cells #[.int .i64 0, .slice none 0 0, .slice none 0 0, .slice none 0 0, .slice none 0 0, .slice none 0 0, .slice none 0 0, .slice none 0 0, .slice none 0 0] 33)) := (Below.refl _ _).alloc (Nat.le_refl _) _
 have k1 := Bk.new w 33 #[.int .i64 0, .slice none 0 0, .slice none 0 0, .slice none 0 0, .slice none 0 0, .slice none 0 0, .slice none 0 0, .slice none 0 0, .slice none 0 0]
 have hs1 : w.heap.size ≤ (w.alloc (.cells #[.int .i64 0, .slice none 0 0, .slice none 0 0, .slice none 0 0, .slice none 0 0, .slice none 0 0, .slice none 0 0, .slice none 0 0, .slice none 0 0] 33)).heap.size := b1.size
 have n0 : (0 : Int) ≤ (n : Int) := by omega
 have HR := Lib.hid hR
 clear hR
 go_enter Tryd.func25, Tryd.ntmps25
 go_wp2_with (at_make; refine mkG elt_gly rfl _ _ rfl _ w.heap.size n _ _ (by rfl) (by rfl) (by rfl) (by rfl) (by omega) hs1 ?_; intro w5 ho5 hb5 hlt5; have k15 := k1.below hb5 k1.lt; have f5 := (k15.alloc (.cells #[.int .i64 4, .bool false, .slice qa qn qc] 55)).frozen; have z5 := fun i v hv => box_cells (v := v) (k15.alloc (.cells #[.int .i64 4, .bool false, .slice qa qn qc] 55)) i hv; have y0 := z5 0 _ rfl; have y1 := z5 1 _ rfl; have y2 := z5 2 _ rfl; have y3 := z5 3 _ rfl; have y4 := z5 4 _ rfl; have y5 := z5 5 _ rfl; have y6 := z5 6 _ rfl; have y7 := z5 7 _ rfl; have y8 := z5 8 _ rfl; have f0 := f5 0; have f1 := f5 1; have f2 := f5 2; have f3 := f5 3; have f4 := f5 4; have f6 := f5 5; have f7 := f5 6; have f8 := f5 7; have f9 := f5 8; clear z5 f5)
 have hk := store9_bk (k15.alloc (.cells #[.int .i64 4, .bool false, .slice qa qn qc] 55)) (.int .i64 0) (.slice (some ⟨w.heap.size + 1, 0, none⟩) n n) (.slice none 0 0) (.slice (some ⟨w5.heap.size, 0, none⟩) 1 1) (.slice none 0 0) (.slice none 0 0) (.slice none 0 0) (.slice none 0 0) (.slice none 0 0)
 have hbl := store9_below (g := w.heap.size) ((below_call b1 hb5).trans (((Below.refl w5.heap.size w5).alloc (Nat.le_refl _) (.cells #[.int .i64 4, .bool false, .slice qa qn qc] 55)).mono (by have := b1.size; have := hb5.size; omega))) (Nat.le_refl _) (.int .i64 0) (.slice (some ⟨w.heap.size + 1, 0, none⟩) n n) (.slice none 0 0) (.slice (some ⟨w5.heap.size, 0, none⟩) 1 1) (.slice none 0 0) (.slice none 0 0) (.slice none 0 0) (.slice none 0 0) (.slice none 0 0)
 obtain ⟨hkp, hsz⟩ := store9_kept (w5.alloc (.cells #[.int .i64 4, .bool false, .slice qa qn qc] 55)) w.heap.size (.int .i64 0) (.slice (some ⟨w.heap.size + 1, 0, none⟩) n n) (.slice none 0 0) (.slice (some ⟨w5.heap.size, 0, none⟩) 1 1) (.slice none 0 0) (.slice none 0 0) (.slice none 0 0) (.slice none 0 0) (.slice none 0 0)
 change bodyPost Tryd.prog Tryd.f25 (FontS S w n rs) Exit.ret _ (store9 (w5.alloc (.cells #[.int .i64 4, .bool false, .slice qa qn qc] 55)) w.heap.size (.int .i64 0) (.slice (some ⟨w.heap.size + 1, 0, none⟩) n n) (.slice none 0 0) (.slice (some ⟨w5.heap.size, 0, none⟩) 1 1) (.slice none 0 0) (.slice none 0 0) (.slice none 0 0) (.slice none 0 0) (.slice none 0 0))
 have ho6 := ho5.alloc (.cells #[.int .i64 4, .bool false, .slice qa qn qc] 55)
 have kl := Bk.new w5 55 #[.int .i64 4, .bool false, .slice qa qn qc]
 rw [World.size_alloc] at hsz
 have hw5 := (below_call b1 hb5).size
 have hl5 := k15.lt
 generalize store9 (w5.alloc (.cells #[.int .i64 4, .bool false, .slice qa qn qc] 55)) w.heap.size (.int .i64 0) (.slice (some ⟨w.heap.size + 1, 0, none⟩) n n) (.slice none 0 0) (.slice (some ⟨w5.heap.size, 0, none⟩) 1 1) (.slice none 0 0) (.slice none 0 0) (.slice none 0 0) (.slice none 0 0) (.slice none 0 0) = W at *
 have ho7 : Ow 85 9 W w.heap.size (some ⟨w.heap.size + 1, 0, none⟩) n n (madeCells zGly.cells (n * 9)).toList := by
  refine Ow.keep (w := w5.alloc (.cells #[.int .i64 4, .bool false, .slice qa qn qc] 55)) (by rw [World.size_alloc] at ho6; exact ho6) fun b e => hkp b ?_
  injection e with e; injection e with e; omega
 have kl7 : Bk W w5.heap.size 55 #[.int .i64 4, .bool false, .slice qa qn qc] := (hkp _ (by omega)).trans kl
 have hR7 := HR.out.mono (fun b hb => (show S b ∨ (w.heap.size ≤ b ∧ b < W.heap.size) from .inl hb)) (fun b hb => hbl.block b (hS b hb))
 refine bodyPost_ret (results_cell_row rfl _ _ w.heap.size 33 _ (0, 0) _ rfl hk Tryd.underlying33 rfl (by kernel_rfl)) rfl ⟨⟨0, some ⟨w.heap.size + 1, 0, none⟩, n, n, none, 0, 0, some ⟨w5.heap.size, 0, none⟩, 1, 1, none, 0, 0, none, 0, 0, none, 0, 0, none, 0, 0, none, 0, 0⟩, rfl, ⟨(rdG_madeS ho7).mono (fun b hb => .inr hb) (Kept.refl _ _), ⟨rfl, fun _ => ⟨w5.heap.size, 0, rfl, .inr ⟨by omega, kl7.lt⟩, fun i x hx => ?_⟩⟩, ⟨Nat.le_refl _, by show n ≤ 9223372036854775807; omega⟩, ⟨Nat.le_refl _, by show 1 ≤ 9223372036854775807; omega⟩⟩, hbl⟩
 match i, hx with
 | 0, hx =>
  injection hx with hx; subst hx
  exact ⟨_, ⟨qa, qn, qc, rfl, hR7, hq⟩, fun j v hv => by
   match j, hv with
   | 0, hv => exact box_cells kl7 0 hv
   | 1, hv => exact box_cells kl7 1 hv
   | 2, hv => exact box_cells kl7 2 hv⟩

def MadeR (w : World) (n : Nat) (rs : List Rul) (e : Ending) (w' : World) : Prop := ∃ f : FV, e = .returned (.agg f.cells) ∧ IsF w' (fun b => w.heap.size ≤ b ∧ b < w'.heap.size) f (fontF n (madeR rs)) ∧ Below w.heap.size w w'
set_option maxRecDepth 100000 in
set_option maxHeartbeats 2000000 in
theorem made_c (g0 : Int) (A0 : Option Addr) (n0 c0 : Nat) (rs : List Rul) (w : World) (h : RdR w (lo w.heap.size) A0 n0 rs) (hh : Hd n0 c0) :
  Calls Tryd.prog 14 #[.int .i64 g0, .slice A0 n0 c0] w (MadeR w (glyN g0) rs) := by
 have bx : Below w.heap.size w (w.alloc (.cells #[.int .i64 0, .slice none 0 0, .slice none 0 0, .slice none 0 0, .slice none 0 0, .slice none 0 0, .slice none 0 0, .slice none 0 0, .slice none 0 0] 33)) := (Below.refl _ _).alloc (Nat.le_refl _) _
 have kx := Bk.new w 33 #[.int .i64 0, .slice none 0 0, .slice none 0 0, .slice none 0 0, .slice none 0 0, .slice none 0 0, .slice none 0 0, .slice none 0 0, .slice none 0 0]
 have h1 := h.call bx
 have hgx : w.heap.size < (w.alloc (.cells #[.int .i64 0, .slice none 0 0, .slice none 0 0, .slice none 0 0, .slice none 0 0, .slice none 0 0, .slice none 0 0, .slice none 0 0, .slice none 0 0] 33)).heap.size := kx.lt
 have HH := Lib.hid h1
 have hcapi : n0 ≤ c0 ∧ c0 ≤ 9223372036854775807 := hh
 have hxl : rs.length = n0 := h.len
 have HXL := Lib.hid hxl
 have e1 : bits .and .i64 g0 7 = g0 % 8 := and7 g0
 obtain ⟨gn, hgn⟩ : ∃ n : Nat, glyN g0 = n := ⟨_, rfl⟩
 have hgn8 : gn ≤ 100000 := by have := glyN_le g0; omega
 have e2 : (1 : Int) + g0 % 8 = (gn : Int) := by rw [← hgn]; unfold glyN; omega
 rw [hgn]
 clear h hh hxl h1 hgn
 have E1 := Lib.hid e1; have E2 := Lib.hid e2
 clear e1 e2
 go_enter Tryd.func14, Tryd.ntmps14
 go_upto_region 3 with fail
 obtain ⟨w1, hw1⟩ : ∃ w1, w.alloc (.cells #[.int .i64 0, .slice none 0 0, .slice none 0 0, .slice none 0 0, .slice none 0 0, .slice none 0 0, .slice none 0 0, .slice none 0 0, .slice none 0 0] 33) = w1 := ⟨_, rfl⟩
 have hmk0 : MkG 58 6 ERul w1 (w1.alloc (.cells #[] 58)) (fun _ => False) (some ⟨w1.heap.size, 0, none⟩) 0 0 [] ((rs.take 0).map cutR) := ⟨Ow.empty _ _ _ _ (Nat.le_refl _), RowOf.nil, (fun b h => h.elim), below_lit _ _ (Below.refl _ _) _⟩
 have hs1 : w.heap.size + 1 = w1.heap.size := by rw [← hw1, World.size_alloc]
 rw [hw1] at bx kx hgx HH ⊢
 rw [hs1]
 clear hw1
 obtain ⟨gx, hgxx⟩ : ∃ g, w.heap.size = g := ⟨_, rfl⟩
 rw [hgxx] at kx hgx hs1 ⊢
 generalize w1.alloc (.cells #[] 58) = w2 at *
 go_loopw [5, 6] (fun rv iv wr => ∃ (i : Nat) (D : Nat → Prop) (A : Option Addr) (c : Nat) (css : List (List Value)), i ≤ 6 ∧ i ≤ n0 ∧ iv = .int .i64 i ∧ rv = .slice A i c ∧ MkG 58 6 ERul w1 wr D A i c css ((rs.take i).map cutR)) (fun _ iv _ => n0 - (intOf iv).toNat)
 case atStart => exact ⟨0, _, _, 0, [], by omega, by omega, rfl, rfl, hmk0⟩
 case round =>
  obtain ⟨i, D, A, c, css, hi6, hin, rfl, rfl, hmk⟩ := hrel
  clear hmk0
  have bwr := hmk.bl
  by_cases hlt : i < n0
  ·by_cases hlt6 : i < 6
   ·obtain ⟨r0, hrow⟩ := at_some rs i (by rw [HXL.out]; omega)
    obtain ⟨bf, of', hfa, hbf, hcc⟩ := HH.out.pos (show 0 < n0 by omega)
    change bf < w1.heap.size at hbf
    obtain ⟨cs, ⟨P1, p1, q1, P2, p2, q2, P3, p3, q3, P4, p4, q4, P5, p5, q5, rfl, hr1, hr2, hr3, _, _, hd1, hd2, hd3, _, _⟩, hcc2⟩ := hcc i r0 hrow
    have HB1 := Lib.hid fun (W : World) (bW : Below wr.heap.size wr W) => row_c P1 p1 q1 r0.back W (hr1.call (below_call bwr bW)) hd1
    have HB2 := Lib.hid fun (W : World) (bW : Below wr.heap.size wr W) => row_c P2 p2 q2 r0.inn W (hr2.call (below_call bwr bW)) hd2
    have HB3 := Lib.hid fun (W : World) (bW : Below wr.heap.size wr W) => row_c P3 p3 q3 r0.ahead W (hr3.call (below_call bwr bW)) hd3
    have x0 := (bwr.cell (p := ⟨bf, of' + i * 6 + 0, none⟩) hbf).trans (hcc2 0 _ rfl)
    have x1 := (bwr.cell (p := ⟨bf, of' + i * 6 + 1, none⟩) hbf).trans (hcc2 1 _ rfl)
    have x2 := (bwr.cell (p := ⟨bf, of' + i * 6 + 2, none⟩) hbf).trans (hcc2 2 _ rfl)
    rw [Nat.add_zero] at x0
    have iz : (0 : Int) ≤ (i : Int) := by omega
    have inn : (i : Int) < (n0 : Int) := by omega
    subst hfa
    have HTK := Lib.hid (show (rs.take (i + 1)).map cutR = (rs.take i).map cutR ++ [cutR r0] by rw [List.take_add_one, hrow]; simp)
    have t6 : (i : Int) < 6 := by omega
    have HMK := Lib.hid hmk
    have hbr := bwr.size
    clear hcc hcc2 hrow hmk hr1 hr2 hr3 hd1 hd2 hd3
    go_upto_region 5 with fail
    have HS := Lib.hid fun (W : World) (bW : Below wr.heap.size wr W) => (show W.cell? ⟨bf, of' + i * 6, none⟩ = some (.slice P1 p1 q1) ∧ W.cell? ⟨bf, of' + i * 6 + 1, none⟩ = some (.slice P2 p2 q2) ∧ W.cell? ⟨bf, of' + i * 6 + 2, none⟩ = some (.slice P3 p3 q3) from ⟨cell_call x0 bW, cell_call x1 bW, cell_call x2 bW⟩)
    have bb := Below.refl wr.heap.size wr
    refine wp_region_held_drew (S := fun w' => w'.cell? ⟨bf, of' + i * 6, none⟩ = some (.slice P1 p1 q1) ∧ w'.cell? ⟨bf, of' + i * 6 + 1, none⟩ = some (.slice P2 p2 q2) ∧ w'.cell? ⟨bf, of' + i * 6 + 2, none⟩ = some (.slice P3 p3 q3)) (by kernel_rfl) ?_ (fun hHeld => ?_)
    ·exact HS.out _ (below_drewN bb 1)
    replace bb := below_drewN bb 1
    change Below _ _ wr.drew at bb
    generalize hw0 : wr.drew = W0 at hHeld bb ⊢
    clear hw0
    refine tkC 0 ?_
    refine tkC 1 ?_
    refine tkC 2 ?_
    refine tkC 3 ?_
    refine tkC 4 ?_
    refine tkC 5 ?_
    refine tkC 7 ?_
    refine tkC 8 ?_
    refine tkC 9 ?_
    refine tkC 10 ?_
    refine tkC 11 ?_
    refine tkC 13 ?_
    refine tkC 14 ?_
    refine tkC 15 ?_
    refine tkC 16 ?_
    refine tkC 17 ?_
    refine rd1 6 fun K hK => ?_
    refine wy ?_
    go_simp
    clear hHeld
    go_at_call 33
    (with_reducible refine (HB1.out W0 bb).mono ?_)
    rintro e W1 ⟨R1, r1, s1, rfl, hv1, hw1, bn⟩
    go_wp2_with fail
    refine hK.out _ _ (HS.out _ (bb.trans (bn.mono bb.size))) fun hHeld => ?_
    clear hK K
    replace hv1 := rdV_lower hv1 bb.size
    replace bb := bb.trans (bn.mono bb.size)
    clear bn
    refine rd1 12 fun K hK => ?_
    refine wy ?_
    go_simp
    clear hHeld
    go_at_call 33
    (with_reducible refine (HB2.out W1 bb).mono ?_)
    rintro e W2 ⟨R2, r2, s2, rfl, hv2, hw2, bn⟩
    go_wp2_with fail
    refine hK.out _ _ (HS.out _ (bb.trans (bn.mono bb.size))) fun hHeld => ?_
    clear hK K
    replace hv2 := rdV_lower hv2 bb.size
    replace hv1 := rdV_keep hv1 bn
    replace bb := bb.trans (bn.mono bb.size)
    clear bn
    refine rd1 18 fun K hK => ?_
    refine wy ?_
    go_simp
    clear hHeld
    go_at_call 33
    (with_reducible refine (HB3.out W2 bb).mono ?_)
    rintro e W3 ⟨R3, r3, s3, rfl, hv3, hw3, bn⟩
    go_wp2_with fail
    refine hK.out _ _ (HS.out _ (bb.trans (bn.mono bb.size))) fun hHeld => ?_
    clear hK K
    replace hv3 := rdV_lower hv3 bb.size
    replace hv1 := rdV_keep hv1 bn
    replace hv2 := rdV_keep hv2 bn
    replace bb := bb.trans (bn.mono bb.size)
    clear bn
    refine tkC 19 ?_
    refine rd1 20 fun K hK => ?_
    refine wy ?_
    go_simp
    clear hHeld
    refine hK.out _ _ (HS.out _ (below_lit _ _ bb _)) fun hHeld => ?_
    clear hK K
    have how := (HMK.out.ow.call bb).alloc (.cells #[.slice R1 r1 s1, .slice R2 r2 s2, .slice R3 r3 s3, .slice none 0 0, .slice none 0 0, .int .i64 0] 58)
    have hnw := news_new W3 [.slice R1 r1 s1, .slice R2 r2 s2, .slice R3 r3 s3, .slice none 0 0, .slice none 0 0, .int .i64 0] 58
    have hs2 : w1.heap.size ≤ (W3.alloc (.cells #[.slice R1 r1 s1, .slice R2 r2 s2, .slice R3 r3 s3, .slice none 0 0, .slice none 0 0, .int .i64 0] 58)).heap.size := by rw [World.size_alloc]; have := bb.size; omega
    have hr : ERul W3 (fun b => wr.heap.size ≤ b ∧ b < W3.heap.size) [.slice R1 r1 s1, .slice R2 r2 s2, .slice R3 r3 s3, .slice none 0 0, .slice none 0 0, .int .i64 0] (cutR r0) := ⟨R1, r1, s1, R2, r2, s2, R3, r3, s3, none, 0, 0, none, 0, 0, rfl, hv1, hv2, hv3, SlE.nil, SlE.nil, hw1, hw2, hw3, hd_le (by omega), hd_le (by omega)⟩
    refine rd1 21 fun K hK => ?_
    clear hHeld
    refine appStep elt_rule (by kernel_rfl) _ _ rfl (W3.alloc (.cells #[.slice R1 r1 s1, .slice R2 r2 s2, .slice R3 r3 s3, .slice none 0 0, .slice none 0 0, .int .i64 0] 58)) w1.heap.size _ _ _ css.flatten _ 1 1 [.slice R1 r1 s1, .slice R2 r2 s2, .slice R3 r3 s3, .slice none 0 0, .slice none 0 0, .int .i64 0] (by rfl) (by rfl) how rfl hnw (by simp [Value.oneCell']) (by omega) hs2 ?_
    intro A' c' W4 ho4 hg4 hb4 hat4
    have hp := HMK.out.push em_rule bb (fun b hb => hb) hr ho4 hg4 hb4 hat4
    have hcp : ∀ b, b < w1.heap.size → W4.heap[b]? = wr.heap[b]? := fun b hb => (hp.bl.block b hb).trans (bwr.block b hb).symm
    refine hkG hK (⟨(World.cell?_of_block (a := ⟨bf, of' + i * 6, none⟩) (hcp bf hbf)).trans x0, (World.cell?_of_block (a := ⟨bf, of' + i * 6 + 1, none⟩) (hcp bf hbf)).trans x1, (World.cell?_of_block (a := ⟨bf, of' + i * 6 + 2, none⟩) (hcp bf hbf)).trans x2⟩) fun hHeld => ?_
    clear hK K
    refine tkC 22 ?_
    refine wpAnyH_done (by kernel_rfl) ?_ _
    go_wp2_with fail
    go_roundw
    case rel => exact ⟨i + 1, _, A', c', _, by omega, by omega, by go_num, rfl, by rw [HTK.out]; exact hp⟩
    case measure => simp [intOf]; omega

   ·have t6 : ¬ (i : Int) < 6 := by omega
    have inn : (i : Int) < (n0 : Int) := by omega
    have htk : rs.take i = rs.take 6 := by rw [show i = 6 by omega]
    rw [htk] at hmk
    have hR := hmk.rd em_rule
    have hq := hmk.ow.hd
    have hB := hmk.bl
    have kr := kx.below hB hgx
    have HF := Lib.hid (fontS_c (fun b => w1.heap.size ≤ b ∧ b < wr.heap.size) gn A i c (madeR rs) wr (fun b hb => hb.2) hR hq hgn8)
    clear hmk hcapi hin hi6 hR hq HH HXL bwr
    have e1 := E1.out; have e2 := E2.out
    go_wp2_with fail
    refine HF.out.mono ?_
    rintro e w3 ⟨f, rfl, hF, hb3⟩
    have k3 := kr.below hb3 kr.lt
    have bl3 := bx.trans ((hB.mono (by omega)).trans (hb3.mono (by have := hB.size; omega)))
    have y0 := box_cells k3 0 rfl
    have f0 := k3.frozen 0
    have y1 := box_cells k3 1 rfl
    have f1 := k3.frozen 1
    have y2 := box_cells k3 2 rfl
    have f2 := k3.frozen 2
    have y3 := box_cells k3 3 rfl
    have f3 := k3.frozen 3
    have y4 := box_cells k3 4 rfl
    have f4 := k3.frozen 4
    have y5 := box_cells k3 5 rfl
    have f5 := k3.frozen 5
    have y6 := box_cells k3 6 rfl
    have f6 := k3.frozen 6
    have y7 := box_cells k3 7 rfl
    have f7 := k3.frozen 7
    have y8 := box_cells k3 8 rfl
    have f8 := k3.frozen 8
    clear HF e1 e2 E1 E2 kr
    obtain ⟨u0, ga, gn', gc, ca, cn, cc, la, ln, lc, a4, n4, c4, a5, n5, c5, a6, n6, c6, a7, n7, c7, a8, n8, c8⟩ := f
    unfold FV.cells
    dsimp only
    go_wp2_with fail
    have hk := store9_bk k3 (.int .i64 u0) (.slice ga gn' gc) (.slice ca cn cc) (.slice la ln lc) (.slice a4 n4 c4) (.slice a5 n5 c5) (.slice a6 n6 c6) (.slice a7 n7 c7) (.slice a8 n8 c8)
    have hbl := store9_below (g := gx) bl3 (by omega) (.int .i64 u0) (.slice ga gn' gc) (.slice ca cn cc) (.slice la ln lc) (.slice a4 n4 c4) (.slice a5 n5 c5) (.slice a6 n6 c6) (.slice a7 n7 c7) (.slice a8 n8 c8)
    obtain ⟨hkp, hsz⟩ := store9_kept w3 gx (.int .i64 u0) (.slice ga gn' gc) (.slice ca cn cc) (.slice la ln lc) (.slice a4 n4 c4) (.slice a5 n5 c5) (.slice a6 n6 c6) (.slice a7 n7 c7) (.slice a8 n8 c8)
    change bodyPost Tryd.prog Tryd.f14 (MadeR w gn rs) Exit.ret _ (store9 w3 gx (.int .i64 u0) (.slice ga gn' gc) (.slice ca cn cc) (.slice la ln lc) (.slice a4 n4 c4) (.slice a5 n5 c5) (.slice a6 n6 c6) (.slice a7 n7 c7) (.slice a8 n8 c8))
    generalize store9 w3 gx (.int .i64 u0) (.slice ga gn' gc) (.slice ca cn cc) (.slice la ln lc) (.slice a4 n4 c4) (.slice a5 n5 c5) (.slice a6 n6 c6) (.slice a7 n7 c7) (.slice a8 n8 c8) = W at *
    refine bodyPost_ret (results_cell_row rfl _ _ gx 33 _ (0, 0) _ rfl hk Tryd.underlying33 rfl (by kernel_rfl)) rfl ⟨⟨u0, ga, gn', gc, ca, cn, cc, la, ln, lc, a4, n4, c4, a5, n5, c5, a6, n6, c6, a7, n7, c7, a8, n8, c8⟩, rfl, hF.mono (fun b hb => ?_) (fun b hb => hkp b ?_), hbl⟩
    ·have h3 := hb3.size
     have h4 := hB.size
     rcases hb with hb | hb
     ·exact ⟨by omega, by omega⟩
     ·exact ⟨by omega, by omega⟩
    ·have h4 := hB.size
     rcases hb with hb | hb
     ·omega
     ·omega
  ·have inn : ¬ (i : Int) < (n0 : Int) := by omega
   have htk : rs.take i = rs.take 6 := by rw [List.take_of_length_le (show rs.length ≤ 6 by rw [HXL.out]; omega), List.take_of_length_le (show rs.length ≤ i by rw [HXL.out]; omega)]
   rw [htk] at hmk
   have hR := hmk.rd em_rule
   have hq := hmk.ow.hd
   have hB := hmk.bl
   have kr := kx.below hB hgx
   have HF := Lib.hid (fontS_c (fun b => w1.heap.size ≤ b ∧ b < wr.heap.size) gn A i c (madeR rs) wr (fun b hb => hb.2) hR hq hgn8)
   clear hmk hcapi hin hi6 hR hq HH HXL bwr
   have e1 := E1.out; have e2 := E2.out
   go_wp2_with fail
   refine HF.out.mono ?_
   rintro e w3 ⟨f, rfl, hF, hb3⟩
   have k3 := kr.below hb3 kr.lt
   have bl3 := bx.trans ((hB.mono (by omega)).trans (hb3.mono (by have := hB.size; omega)))
   have y0 := box_cells k3 0 rfl
   have f0 := k3.frozen 0
   have y1 := box_cells k3 1 rfl
   have f1 := k3.frozen 1
   have y2 := box_cells k3 2 rfl
   have f2 := k3.frozen 2
   have y3 := box_cells k3 3 rfl
   have f3 := k3.frozen 3
   have y4 := box_cells k3 4 rfl
   have f4 := k3.frozen 4
   have y5 := box_cells k3 5 rfl
   have f5 := k3.frozen 5
   have y6 := box_cells k3 6 rfl
   have f6 := k3.frozen 6
   have y7 := box_cells k3 7 rfl
   have f7 := k3.frozen 7
   have y8 := box_cells k3 8 rfl
   have f8 := k3.frozen 8
   clear HF e1 e2 E1 E2 kr
   obtain ⟨u0, ga, gn', gc, ca, cn, cc, la, ln, lc, a4, n4, c4, a5, n5, c5, a6, n6, c6, a7, n7, c7, a8, n8, c8⟩ := f
   unfold FV.cells
   dsimp only
   go_wp2_with fail
   have hk := store9_bk k3 (.int .i64 u0) (.slice ga gn' gc) (.slice ca cn cc) (.slice la ln lc) (.slice a4 n4 c4) (.slice a5 n5 c5) (.slice a6 n6 c6) (.slice a7 n7 c7) (.slice a8 n8 c8)
   have hbl := store9_below (g := gx) bl3 (by omega) (.int .i64 u0) (.slice ga gn' gc) (.slice ca cn cc) (.slice la ln lc) (.slice a4 n4 c4) (.slice a5 n5 c5) (.slice a6 n6 c6) (.slice a7 n7 c7) (.slice a8 n8 c8)
   obtain ⟨hkp, hsz⟩ := store9_kept w3 gx (.int .i64 u0) (.slice ga gn' gc) (.slice ca cn cc) (.slice la ln lc) (.slice a4 n4 c4) (.slice a5 n5 c5) (.slice a6 n6 c6) (.slice a7 n7 c7) (.slice a8 n8 c8)
   change bodyPost Tryd.prog Tryd.f14 (MadeR w gn rs) Exit.ret _ (store9 w3 gx (.int .i64 u0) (.slice ga gn' gc) (.slice ca cn cc) (.slice la ln lc) (.slice a4 n4 c4) (.slice a5 n5 c5) (.slice a6 n6 c6) (.slice a7 n7 c7) (.slice a8 n8 c8))
   generalize store9 w3 gx (.int .i64 u0) (.slice ga gn' gc) (.slice ca cn cc) (.slice la ln lc) (.slice a4 n4 c4) (.slice a5 n5 c5) (.slice a6 n6 c6) (.slice a7 n7 c7) (.slice a8 n8 c8) = W at *
   refine bodyPost_ret (results_cell_row rfl _ _ gx 33 _ (0, 0) _ rfl hk Tryd.underlying33 rfl (by kernel_rfl)) rfl ⟨⟨u0, ga, gn', gc, ca, cn, cc, la, ln, lc, a4, n4, c4, a5, n5, c5, a6, n6, c6, a7, n7, c7, a8, n8, c8⟩, rfl, hF.mono (fun b hb => ?_) (fun b hb => hkp b ?_), hbl⟩
   ·have h3 := hb3.size
    have h4 := hB.size
    rcases hb with hb | hb
    ·exact ⟨by omega, by omega⟩
    ·exact ⟨by omega, by omega⟩
   ·have h4 := hB.size
    rcases hb with hb | hb
    ·omega
    ·omega


end Go.Proofs.YtgcmedkaadagmaaDoor
