/- Walks: AutomatonMatches. -/
import Derived.Test.YtgcmedkaadagmaaDoorTk
import Derived.Test.YtgcmedkaadagmaaDoorYc
import Derived.Test.YtgcmedkaadagmaaDoorYlI
import Derived.Test.YtgcmedkaadagmaaDoorTwI
import Derived.Test.YtgcmedkaadagmaaDoorL4
import Derived.Test.YtgcmedkaadagmaaDoorMp
import Derived.Test.YtgcmedkaadagmaaDoorMw3
import Derived.Deep.CutBlock
namespace Go.Proofs.YtgcmedkaadagmaaDoor
open Go.RowKit Go.Shelf Go.Maps
def mkIt (n : Nat) (l : List Int) : List Itm := l.map fun x => ⟨x % 65536 % (n : Int), 0, 0, 0, 0, 0⟩
def icI (l : List Itm) : List Value := (l.map itmC).flatten
theorem icI_app (l : List Itm) (x : Itm) : icI (l ++ [x]) = icI l ++ itmC x := by unfold icI; simp
theorem icI_row (l : List Itm) : RowOf 6 EItm (l.map itmC) l := ⟨by simp, fun cs h => by obtain ⟨x, _, rfl⟩ := List.mem_map.1 h; rfl, fun i cs x h1 h2 => by rw [List.getElem?_map, h2] at h1; injection h1 with h1; exact h1.symm⟩
theorem rdI_of {w : World} {base n c : Nat} {A : Option Addr} {l : List Itm} (h : Ow 76 6 w base A n c (icI l)) : RdI w (lo w.heap.size) A n l := h.row (icI_row l) (by omega)
theorem mkIt_succ (n : Nat) {l : List Int} {i : Nat} {x : Int} (h : l[i]? = some x) : mkIt n (l.take (i + 1)) = mkIt n (l.take i) ++ [⟨x % 65536 % (n : Int), 0, 0, 0, 0, 0⟩] := by
 unfold mkIt; rw [List.take_add_one, h]; simp
theorem mkIt_ok {n : Nat} (hn : 0 < n) (l : List Int) (i : Nat) (h : i < (mkIt n l).length) : 0 ≤ gAt (mkIt n l) i ∧ gAt (mkIt n l) i < (n : Int) := by
 obtain ⟨it, hit⟩ := at_some (mkIt n l) i h
 unfold gAt
 rw [hit]
 unfold mkIt at hit
 rw [List.getElem?_map] at hit
 cases hx : l[i]? with
 | none => rw [hx] at hit; cases hit
 | some x =>
  rw [hx] at hit
  injection hit with hit
  subst hit
  show 0 ≤ x % 65536 % (n : Int) ∧ x % 65536 % (n : Int) < (n : Int)
  exact ⟨Int.emod_nonneg _ (by omega), Int.emod_lt_of_pos _ (by omega)⟩
theorem upL_next {s : Nat → Bool} {i : Nat} {b : Bool} (h : s i = b) : upL s (i + 1) 0 = if b then upL s i 0 ++ [i] else upL s i 0 := by
 rw [upL_split s (Nat.le_succ i), upL_step (Nat.lt_succ_self i), upL_end (Nat.le_refl _), h]
 cases b <;> simp
theorem natI_app1 (l : List Nat) (i : Nat) : natI (l ++ [i]) = natI l ++ [(i : Int)] := by unfold natI; simp
theorem mark_at {w : World} {S : Nat → Prop} {f : FV} {F : Fnt} (hf : IsF w S f F) {g : Int} (h0 : 0 ≤ g) (h1 : g < (F.gly.length : Int)) : ∃ b o, f.ga = some ⟨b, o, none⟩ ∧ S b ∧ w.cell? ⟨b, o + g.toNat * 9 + 2, none⟩ = some (.bool (isMark F g)) := by
 have hl := hf.1.len
 obtain ⟨b, o, e, hb, hc⟩ := hf.1.pos (by omega)
 obtain ⟨y, hy⟩ := at_some F.gly g.toNat (by omega)
 obtain ⟨cs, ⟨u0, u1, u3, u4, u5, A, n, c, u7, u8, rfl, _⟩, h2⟩ := hc _ y hy
 have hm : isMark F g = y.mark := by unfold isMark; rw [hy, show decide (0 ≤ g) = true by simpa using h0]; rfl
 exact ⟨b, o, e, hb, by rw [hm]; exact h2 2 _ rfl⟩
theorem bk_next {S : List Nat} {run : List Itm} {k j q p : Nat} (hk : k ≤ S.length) (hj : j + (q + 1) = k) (hp : S[q]? = some p) : (((S.take k).reverse.take (j + 1)).map (gAt run)) = (((S.take k).reverse.take j).map (gAt run)) ++ [gAt run p] := by
 have h1 : (S.take k).reverse[j]? = some p := by
  rw [List.getElem?_reverse (by rw [List.length_take]; omega), List.length_take, show min k S.length - 1 - j = q by omega, List.getElem?_take, if_pos (by omega), hp]
 rw [List.take_add_one, h1]
 simp
theorem fk_next {S : List Nat} {run : List Itm} {k j p : Nat} (hp : S[k + j]? = some p) : (((S.drop k).take (j + 1)).map (gAt run)) = (((S.drop k).take j).map (gAt run)) ++ [gAt run p] := by
 rw [List.take_add_one, List.getElem?_drop, hp]
 simp
theorem LkB.rch {l : Lk} (h : LkB l) : RchL l := by
 have hn := h.n
 refine ⟨by omega, fun r hr => ?_⟩
 have h2 := h.r r hr
 have h3 := h2.b
 have h4 := h2.i
 have h5 := h2.a
 have h6 := h2.l
 exact ⟨by omega, by omega, fun s hs => by have := h6 s (List.mem_append_right _ (List.mem_append_left _ hs)); omega⟩
theorem MPost.num {w : World} {o : Option (Nat × List Nat)} {e : Ending} {w' : World} (h : MPost w o e w') : ∃ A n c, e = .returned (.tuple #[.int .i64 (ruleZ o), .slice A n c]) ∧ Below w.heap.size w w' := by
 cases o with
 | none => exact ⟨none, 0, 0, h.1, h.2⟩
 | some x =>
  obtain ⟨m, ps⟩ := x
  obtain ⟨A, c, e, _, _, hb⟩ := h
  exact ⟨A, _, c, e, hb⟩
set_option maxRecDepth 100000 in
set_option maxHeartbeats 8000000 in
theorem automatonMatches_walk (A0 : Option Addr) (n0 c0 : Nat) (nums : List Int) (l : Int) (A1 : Option Addr) (n1 c1 : Nat) (runs : List Int) (w : World) (h0 : Rd w (lo w.heap.size) A0 n0 nums) (g0 : Hd n0 c0) (h1 : Rd w (lo w.heap.size) A1 n1 runs) (g1 : Hd n1 c1) (hT : Tab w) : Calls Tryd.prog 12 #[.slice A0 n0 c0, .int .i64 l, .slice A1 n1 c1] w fun e w' => e = .returned (.bool true) ∧ Below w.heap.size w w' := by
 obtain ⟨m6, hm6⟩ : ∃ m : Nat, m = min n0 60 := ⟨_, rfl⟩
 have m6a : min (n0 : Int) 60 = (m6 : Int) := by omega
 have m6b : (if (60 : Int) < (n0 : Int) then (60 : Int) else (n0 : Int)) = (m6 : Int) := by split <;> omega
 have m6z : (0 : Int) ≤ (m6 : Int) := by omega
 have m6c : (m6 : Int) ≤ (c0 : Int) := by have := g0.1; omega
 have m6d : c0 ≤ 9223372036854775807 := g0.2
 have hd6 : Hd m6 c0 := ⟨by have := g0.1; omega, g0.2⟩
 have HM6 := Lib.hid hm6
 have hTp := hT.pos
 have HSH := Lib.hid (shown_c w hT)
 have HTT := Lib.hid fun (W : World) (bW : Below w.heap.size w W) => hT.call bW hTp
 have HN0 := Lib.hid fun (W : World) (bW : Below w.heap.size w W) => h0.call bW
 have HR1 := Lib.hid fun (W : World) (bW : Below w.heap.size w W) => h1.call bW
 have L1 := Lib.hid h1.len
 have g1a := g1.1
 have g1b := g1.2
 clear h0 h1 hT hm6 g1 g0
 go_enter Tryd.func12, Tryd.ntmps12
 go_wp2_with fail
 refine HSH.out.mono ?_
 rintro e w1 ⟨rfl, b1⟩
 have HMD := Lib.hid (bmade_c A0 m6 c0 (nums.take 60) w1 (rd_takep (HN0.out w1 b1) HM6.out) hd6)
 clear HSH
 go_wp2_with fail
 refine HMD.out.mono ?_
 rintro e w7 ⟨g, G, rfl, hG, hg2, hg10, hl6, hlb, bn⟩
 have bl := below_lit w7 w7 (Below.refl _ _) (.cells #[.int .i64 g.u0, .slice g.ga g.gn g.gc, .slice g.ca g.cn g.cc, .slice g.la g.ln g.lc, .slice g.a4 g.n4 g.c4, .slice g.a5 g.n5 g.c5, .slice g.a6 g.n6 g.c6, .slice g.a7 g.n7 g.c7, .slice g.a8 g.n8 g.c8] 33)
 have kg := Bk.new w7 33 #[.int .i64 g.u0, .slice g.ga g.gn g.gc, .slice g.ca g.cn g.cc, .slice g.la g.ln g.lc, .slice g.a4 g.n4 g.c4, .slice g.a5 g.n5 g.c5, .slice g.a6 g.n6 g.c6, .slice g.a7 g.n7 g.c7, .slice g.a8 g.n8 g.c8]
 have hG8 : IsF (w7.alloc (.cells #[.int .i64 g.u0, .slice g.ga g.gn g.gc, .slice g.ca g.cn g.cc, .slice g.la g.ln g.lc, .slice g.a4 g.n4 g.c4, .slice g.a5 g.n5 g.c5, .slice g.a6 g.n6 g.c6, .slice g.a7 g.n7 g.c7, .slice g.a8 g.n8 g.c8] 33)) (lo (w7.alloc (.cells #[.int .i64 g.u0, .slice g.ga g.gn g.gc, .slice g.ca g.cn g.cc, .slice g.la g.ln g.lc, .slice g.a4 g.n4 g.c4, .slice g.a5 g.n5 g.c5, .slice g.a6 g.n6 g.c6, .slice g.a7 g.n7 g.c7, .slice g.a8 g.n8 g.c8] 33)).heap.size) g G := (hG.mono (fun _ hb => hb.2) (Kept.refl _ _)).call bl
 have b8 := below_call (below_call b1 bn) bl
 have HLB := Lib.hid hlb
 have hgl := hG8.1.len
 have hll := hG8.2.1.len
 clear HMD hG bn b1 bl hlb m6a m6b m6z m6c m6d hd6 HM6 HN0
 go_upto_region 3 with fail
 obtain ⟨w8, hw8⟩ : ∃ W, w7.alloc (.cells #[.int .i64 g.u0, .slice g.ga g.gn g.gc, .slice g.ca g.cn g.cc, .slice g.la g.ln g.lc, .slice g.a4 g.n4 g.c4, .slice g.a5 g.n5 g.c5, .slice g.a6 g.n6 g.c6, .slice g.a7 g.n7 g.c7, .slice g.a8 g.n8 g.c8] 33) = W := ⟨_, rfl⟩
 obtain ⟨gg, hgg⟩ : ∃ x, w7.heap.size = x := ⟨_, rfl⟩
 rw [hw8] at kg hG8 b8
 rw [hgg] at kg
 try rw [hw8]
 try rw [hgg]
 clear hw8 hgg
 have HGL := Lib.hid hgl
 have HLL := Lib.hid hll
 clear hgl hll
 have v0 := box_cells kg 0 rfl
 have v1 := box_cells kg 1 rfl
 have v2 := box_cells kg 2 rfl
 have v3 := box_cells kg 3 rfl
 have v4 := box_cells kg 4 rfl
 have v5 := box_cells kg 5 rfl
 have v6 := box_cells kg 6 rfl
 have v7 := box_cells kg 7 rfl
 have v8 := box_cells kg 8 rfl
 have tg : ((g.gn : Int) == 0) = false := by simp; omega
 have tg' : (g.gn == 0) = false := by simp; omega
 by_cases hz : g.ln = 0
 ·have tl : ((g.ln : Int) == 0) = true := by simp; omega
  have tl' : (g.ln == 0) = true := by simpa using hz
  clear hz hG8 kg
  go_wp2
  go_ret
  exact ⟨rfl, b8⟩
 ·have tl : ((g.ln : Int) == 0) = false := by simp; omega
  have tl' : (g.ln == 0) = false := by simpa using hz
  have lnp : 0 < g.ln := by omega
  clear hz
  obtain ⟨n, hn⟩ : ∃ n : Nat, l % 65536 % (g.ln : Int) = (n : Int) := ⟨(l % 65536 % (g.ln : Int)).toNat, by have := Int.emod_nonneg (l % 65536) (show (g.ln : Int) ≠ 0 by omega); omega⟩
  have hnl : n < g.ln := by have := Int.emod_lt_of_pos (l % 65536) (show (0 : Int) < (g.ln : Int) by omega); omega
  have e1 := and16 l
  obtain ⟨z0, hz0⟩ : ∃ z0 : Nat, l % 65536 = (z0 : Int) := ⟨(l % 65536).toNat, by omega⟩
  rw [hz0] at e1 hn
  have e2 : (z0 : Int).tmod (g.ln : Int) = (n : Int) := by rw [Int.tmod_eq_emod_of_nonneg (by omega)]; exact hn
  have ez : ¬ (g.ln = 0) := by omega
  clear hz0 hn
  go_upto_region 6 with fail
  clear e1 e2 ez tl tl' tg tg'
  obtain ⟨lk, hlk⟩ := at_some G.lks n (by rw [HLL.out]; exact hnl)
  have hlka : lkAt G (n : Int) = some lk := lkAt_nat hlk
  have HBB := Lib.hid (build_c g G (n : Int) w8 hG8 (lk_small HLB.out _))
  unfold FV.cells at HBB
  have HLK := Lib.hid hlk
  have HLA := Lib.hid hlka
  clear hlk hlka
  go_wp2_with fail
  refine HBB.out.mono ?_
  rintro e w9 ⟨bn, hm⟩
  have hb9 := below_call b8 bn
  have hG9 := hG8.call bn
  have kg9 := kg.below bn kg.lt
  clear HBB b8 hG8 kg bn v0 v1 v2 v3 v4 v5 v6 v7 v8
  obtain ⟨⟨ob, er⟩, hbl⟩ : ∃ x, buildL G (n : Int) = x := ⟨_, rfl⟩
  rw [hbl] at hm
  cases ob with
  | none =>
   dsimp only at hm
   subst hm
   have her := built_none hbl
   have hb10 := below_call hb9 (below_lit w9 w9 (Below.refl _ _) (.cells #[.slice none 0 0, .slice none 0 0, .slice none 0 0, .slice none 0 0, .slice none 0 0] 38))
   clear hbl hG9 kg9 hb9
   rcases her with rfl | rfl
   ·go_wp2
    go_ret
    exact ⟨rfl, hb10⟩
   ·go_wp2
    go_ret
    exact ⟨rfl, hb10⟩
  | some a =>
   obtain ⟨v, rfl, hA9⟩ := hm
   unfold AV.cells
   have bl := below_lit w9 w9 (Below.refl _ _) (.cells #[.slice v.ca v.cn v.cc, .slice v.fa v.fn v.fc, .slice v.ba v.bn v.bc, .slice v.ea v.en v.ec, .slice v.ga v.gn v.gc] 38)
   have hAB : IsA (w9.alloc (.cells #[.slice v.ca v.cn v.cc, .slice v.fa v.fn v.fc, .slice v.ba v.bn v.bc, .slice v.ea v.en v.ec, .slice v.ga v.gn v.gc] 38)) (lo (w9.alloc (.cells #[.slice v.ca v.cn v.cc, .slice v.fa v.fn v.fc, .slice v.ba v.bn v.bc, .slice v.ea v.en v.ec, .slice v.ga v.gn v.gc] 38)).heap.size) v a := hA9.mono (fun x hx => by show x < _; rw [World.size_alloc]; exact Nat.lt_succ_of_lt hx) (fun x hx => bl.block x hx)
   have kA := Bk.new w9 38 #[.slice v.ca v.cn v.cc, .slice v.fa v.fn v.fc, .slice v.ba v.bn v.bc, .slice v.ea v.en v.ec, .slice v.ga v.gn v.gc]
   have kgB := kg9.below bl kg9.lt
   have hGB := hG9.call bl
   have bB := below_call hb9 bl
   have hgA : gg < w9.heap.size := kg9.lt
   obtain ⟨lk', hl1, _, _, h64, hau, _⟩ := built_some hbl
   have hlke : lk' = lk := by rw [HLA.out] at hl1; injection hl1 with hl1; exact hl1.symm
   rw [hlke] at hau h64
   have HAU := Lib.hid (And.intro h64 hau)
   clear hlke hl1 h64 hau lk' hA9 kg9 hG9 hb9 bl hbl
   go_upto_region 9 with fail
   obtain ⟨wB, hwB⟩ : ∃ W, w9.alloc (.cells #[.slice v.ca v.cn v.cc, .slice v.fa v.fn v.fc, .slice v.ba v.bn v.bc, .slice v.ea v.en v.ec, .slice v.ga v.gn v.gc] 38) = W := ⟨_, rfl⟩
   obtain ⟨gA, hgA2⟩ : ∃ x, w9.heap.size = x := ⟨_, rfl⟩
   rw [hwB] at hAB kA kgB hGB bB
   rw [hgA2] at kA hgA
   try rw [hwB]
   try rw [hgA2]
   clear hwB hgA2
   have ho0 : Ow 76 6 (wB.alloc (.cells #[] 76)) wB.heap.size (some ⟨wB.heap.size, 0, none⟩) 0 0 (icI (mkIt g.gn (runs.take 0))) := ow_none 76 6 wB wB.heap.size (Nat.le_refl _)
   have hbl0 := below_lit wB wB (Below.refl _ _) (.cells #[] 76)
   have HAB := Lib.hid hAB
   have HGB := Lib.hid hGB
   have KGB := Lib.hid kgB
   have KAB := Lib.hid kA
   have hgB : gg < wB.heap.size := kgB.lt
   have BB := Lib.hid bB
   clear hAB hGB kgB kA bB
   go_upto_block 0 with fail
   go_cut [12, 13] from 57 to 79 (fun ov _ wx => ∃ (A : Option Addr) (m d : Nat), ov = .slice A m d ∧ m ≤ 20 ∧ Ow 76 6 wx wB.heap.size A m d (icI (mkIt g.gn (runs.take 20))) ∧ Below wB.heap.size wB wx)
   case first =>
    go_upto_region 11 with fail
    generalize wB.alloc (.cells #[] 76) = w10 at *
    generalize (some ⟨wB.heap.size, 0, none⟩ : Option Addr) = AI at *
    go_loopw [12, 13] (fun ov iv wr => ∃ (i : Nat) (A : Option Addr) (d : Nat), i ≤ 20 ∧ i ≤ n1 ∧ iv = .int .i64 i ∧ ov = .slice A i d ∧ Ow 76 6 wr wB.heap.size A i d (icI (mkIt g.gn (runs.take i))) ∧ Below wB.heap.size wB wr) (fun _ iv _ => n1 - (intOf iv).toNat)
    case atStart => exact ⟨0, _, _, by omega, by omega, rfl, rfl, ho0, hbl0⟩
    case round =>
     clear ho0 hbl0
     obtain ⟨i, A, d, hi20, hin, rfl, rfl, ho, hbl⟩ := hrel
     by_cases hlt : i < n1
     ·have inn : (i : Int) < (n1 : Int) := by omega
      by_cases hlt20 : i < 20
      ·have i20 : (i : Int) < 20 := by omega
       have iz : (0 : Int) ≤ (i : Int) := by omega
       obtain ⟨x, hx⟩ := at_some runs i (by rw [L1.out]; omega)
       obtain ⟨ba, oa, rfl, hba, hcc⟩ := (HR1.out w (Below.refl _ _)).pos (show 0 < n1 by omega)
       obtain ⟨cs, rfl, hcc2⟩ := hcc i x hx
       have bwr : Below w.heap.size w wr := below_call BB.out hbl
       have xe := (bwr.cell (p := ⟨ba, oa + i * 1 + 0, none⟩) hba).trans (hcc2 0 _ rfl)
       rw [Nat.mul_one, Nat.add_zero] at xe
       change ba < w.heap.size at hba
       have hbB : ba < wB.heap.size := by have := BB.out.size; omega
       have HMG := Lib.hid (mkIt_succ g.gn hx)
       obtain ⟨z, hz⟩ : ∃ z : Int, x % 65536 % (g.gn : Int) = z := ⟨_, rfl⟩
       have e1 := and16 x
       obtain ⟨z0, hz0⟩ : ∃ z0 : Nat, x % 65536 = (z0 : Int) := ⟨(x % 65536).toNat, by omega⟩
       rw [hz0] at e1 hz
       have e2 : (z0 : Int).tmod (g.gn : Int) = z := by rw [Int.tmod_eq_emod_of_nonneg (by omega)]; exact hz
       rw [hz0, hz] at HMG
       have ez2 : ¬ (g.gn = 0) := by omega
       have yf : wr.cell? ⟨gg, 1, none⟩ = some (.slice g.ga g.gn g.gc) := box_cells (KGB.out.below hbl KGB.out.lt) 1 rfl
       have HSS := Lib.hid ho
       have HBL := Lib.hid hbl
       clear hcc hcc2 hx ho hbl hz hz0 bwr
       go_upto_region 13 with fail
       have HS := Lib.hid fun (W : World) (bW : Below wr.heap.size wr W) => (show W.cell? ⟨ba, oa + i, none⟩ = some (.int .i64 x) ∧ W.cell? ⟨gg, 1, none⟩ = some (.slice g.ga g.gn g.gc) from ⟨cell_call xe bW, cell_call yf bW⟩)
       have bb := Below.refl wr.heap.size wr
       refine wp_region_held_drew (S := fun w' => w'.cell? ⟨ba, oa + i, none⟩ = some (.int .i64 x) ∧ w'.cell? ⟨gg, 1, none⟩ = some (.slice g.ga g.gn g.gc)) (by kernel_rfl) ?_ (fun hHeld => ?_)
       ·exact HS.out _ (below_drewN bb 1)
       replace bb := below_drewN bb 1
       change Below _ _ wr.drew at bb
       generalize hw0 : wr.drew = W0 at hHeld bb ⊢
       clear hw0
       refine tkC 0 ?_
       refine tkC 1 ?_
       refine tkC 2 ?_
       refine tkC 3 ?_
       refine tkC 4 ?_
       refine tkC 5 ?_
       refine tkC 6 ?_
       refine tkC 7 ?_
       refine tkC 8 ?_
       refine tkC 9 ?_
       refine tkC 10 ?_
       refine rd1 11 fun K hK => ?_
       refine wy ?_
       go_simp
       clear hHeld
       refine hK.out _ _ (HS.out _ (below_lit _ _ bb _)) fun hHeld => ?_
       clear hK K
       refine rd1 12 fun K hK => ?_
       clear hHeld
       have how := (HSS.out.call bb).alloc (.cells #[.int .i64 z, .int .i64 0, .int .i64 0, .int .i64 0, .int .i64 0, .int .i64 0] 76)
       have hnw := news_new W0 [.int .i64 z, .int .i64 0, .int .i64 0, .int .i64 0, .int .i64 0, .int .i64 0] 76
       have hs2 : wB.heap.size ≤ (W0.alloc (.cells #[.int .i64 z, .int .i64 0, .int .i64 0, .int .i64 0, .int .i64 0, .int .i64 0] 76)).heap.size := by rw [World.size_alloc]; have h1 := HBL.out.size; have h2 := bb.size; omega
       refine appStep elt_item (by kernel_rfl) _ _ rfl (W0.alloc (.cells #[.int .i64 z, .int .i64 0, .int .i64 0, .int .i64 0, .int .i64 0, .int .i64 0] 76)) wB.heap.size _ _ _ (icI (mkIt g.gn (runs.take i))) _ 1 1 [.int .i64 z, .int .i64 0, .int .i64 0, .int .i64 0, .int .i64 0, .int .i64 0] (by rfl) (by rfl) how rfl hnw (by simp [Value.oneCell']) (by omega) hs2 ?_
       intro A' d' W4 ho4 hg4 hb4 hat4
       have hbl : Below wB.heap.size wB W4 := ((HBL.out.trans (bb.mono HBL.out.size)).trans (((Below.refl W0.heap.size W0).alloc (Nat.le_refl _) (.cells #[.int .i64 z, .int .i64 0, .int .i64 0, .int .i64 0, .int .i64 0, .int .i64 0] 76)).mono (by have h1 := HBL.out.size; have h2 := bb.size; omega))).trans hb4
       have hlo : ∀ b, b < wB.heap.size → W4.heap[b]? = wr.heap[b]? := fun b hb => (hbl.block b hb).trans (HBL.out.block b hb).symm
       refine hkG hK (⟨(World.cell?_of_block (a := ⟨ba, oa + i, none⟩) (hlo ba hbB)).trans xe, (World.cell?_of_block (a := ⟨gg, 1, none⟩) (hlo _ hgB)).trans yf⟩) fun hHeld => ?_
       clear hK K
       refine tkC 13 ?_
       refine wpAnyH_done (by kernel_rfl) ?_ _
       clear hHeld how hnw hlo HS bb
       go_wp2_with fail
       go_roundw
       case rel => exact ⟨i + 1, A', d', by omega, by omega, by go_num, rfl, (by rw [HMG.out, icI_app]; exact ho4), hbl⟩
       case measure => simp [intOf]; omega
      ·have i20 : ¬ (i : Int) < 20 := by omega
       have htk : runs.take i = runs.take 20 := by rw [show i = 20 by omega]
       clear hlt20
       rw [htk] at ho
       clear htk
       go_wp2
       go_meet
       exact ⟨A, i, d, rfl, hi20, ho, hbl⟩
     ·have inn : ¬ (i : Int) < (n1 : Int) := by omega
      have htk : runs.take i = runs.take 20 := by rw [List.take_of_length_le (show runs.length ≤ 20 by rw [L1.out]; omega), List.take_of_length_le (show runs.length ≤ i by rw [L1.out]; omega)]
      clear hlt
      rw [htk] at ho
      clear htk
      go_wp2
      go_meet
      exact ⟨A, i, d, rfl, hi20, ho, hbl⟩
   case rest =>
    clear ho0 hbl0
    obtain ⟨A, m, d, rfl, hm20, ho, hbC⟩ := hcut
    generalize hwcr : wc = wC at *
    clear hwcr wc
    have hlI : (mkIt g.gn (runs.take 20)).length = m := (rdI_of ho).len
    have hgI := mkIt_ok (show 0 < g.gn by omega) (runs.take 20)
    obtain ⟨its, hits⟩ : ∃ y, mkIt g.gn (runs.take 20) = y := ⟨_, rfl⟩
    rw [hits] at hlI hgI ho
    clear hits
    have hGn := HGL.out
    rw [← hGn] at hgI
    have HGI := Lib.hid hgI
    have HIL := Lib.hid hlI
    have hIC := rdI_of ho
    have HIC := Lib.hid hIC
    have hbwC := below_call BB.out hbC
    have HBC := Lib.hid (And.intro hbC hbwC)
    have hCs := hbC.size
    clear hgI hIC ho hlI hGn hbC hbwC
    have hos0 : Ow 3 1 (wC.alloc (.cells #[] 3)) wC.heap.size (some ⟨wC.heap.size, 0, none⟩) 0 0 (ic (natI (upL (seenB G lk.ign its) 0 0))) := ow_none 3 1 wC wC.heap.size (Nat.le_refl _)
    have hbs0 := below_lit wC wC (Below.refl _ _) (.cells #[] 3)
    go_upto_block 2 with fail
    go_cut [14, 15] from 81 to 110 (fun sv _ wx => ∃ (SA : Option Addr) (sq sc : Nat), sv = .slice SA sq sc ∧ Ow 3 1 wx wC.heap.size SA sq sc (ic (natI (upL (seenB G lk.ign its) its.length 0))) ∧ Below wC.heap.size wC wx)
    case first =>
     go_upto_region 16 with fail
     generalize wC.alloc (.cells #[] 3) = w10 at *
     generalize (some ⟨wC.heap.size, 0, none⟩ : Option Addr) = AS at *
     go_loopw [14, 15] (fun sv iv wr => ∃ (i : Nat) (SA : Option Addr) (sq sc : Nat), iv = .int .i64 (i : Int) ∧ i ≤ m ∧ sv = .slice SA sq sc ∧ sq ≤ i ∧ Ow 3 1 wr wC.heap.size SA sq sc (ic (natI (upL (seenB G lk.ign its) i 0))) ∧ Below wC.heap.size wC wr) (fun _ iv _ => m - (intOf iv).toNat)
     case atStart => exact ⟨0, _, 0, 0, rfl, by omega, rfl, by omega, hos0, hbs0⟩
     case round =>
      clear hos0 hbs0
      obtain ⟨i, SA, sq, sc, rfl, him, rfl, hsq, hos, hbs⟩ := hrel
      by_cases hlt : i < m
      ·have in0 : (i : Int) < (m : Int) := by omega
       have iz : (0 : Int) ≤ (i : Int) := by omega
       have hbr : Below wB.heap.size wB wr := below_call HBC.out.1 hbs
       have hGr := HGB.out.call hbr
       have kgr := KGB.out.below hbr KGB.out.lt
       have hIr := HIC.out.call hbs
       obtain ⟨it, hit⟩ := at_some its i (by rw [HIL.out]; omega)
       have hgi := gAt_some hit
       have hgb := HGI.out i (by rw [HIL.out]; omega)
       rw [hgi] at hgb
       obtain ⟨ib, io, rfl, _, hic⟩ := hIr.pos (show 0 < m by omega)
       obtain ⟨_, rfl, hic2⟩ := hic i it hit
       have yi := hic2 0 _ rfl
       rw [Nat.add_zero] at yi
       obtain ⟨lb, lo', hla, _, hlc⟩ := hGr.2.1.pos (show 0 < g.ln by omega)
       obtain ⟨_, ⟨LA, lN, lC, rfl, _⟩, hlc2⟩ := hlc n lk HLK.out
       have yg := hlc2 1 _ rfl
       have y3 : wr.cell? ⟨gg, 3, none⟩ = some (.slice g.la g.ln g.lc) := box_cells kgr 3 rfl
       have y1 : wr.cell? ⟨gg, 1, none⟩ = some (.slice g.ga g.gn g.gc) := box_cells kgr 1 rfl
       rw [hla] at y3
       have nz : (0 : Int) ≤ (n : Int) := by omega
       have nn : (n : Int) < (g.ln : Int) := by omega
       have hgl0 : 0 ≤ it.g := hgb.1
       have hgl1 : it.g < (g.gn : Int) := by have := hgb.2; have := HGL.out; omega
       obtain ⟨mb, mo, hga, _, ym⟩ := mark_at hGr hgb.1 hgb.2
       rw [hga] at y1
       obtain ⟨ig, hig⟩ : ∃ b, lk.ign = b := ⟨_, rfl⟩
       obtain ⟨mk, hmk⟩ : ∃ b, isMark G it.g = b := ⟨_, rfl⟩
       have hsi : seenB G lk.ign its i = !(ig && mk) := by unfold seenB; rw [hig, hgi, hmk]
       rw [hig] at yg
       rw [hmk] at ym
       have HSI := Lib.hid hsi
       clear hsi hgi hic hic2 hlc hlc2 hla hga hmk hig hGr kgr hIr hbr hit hgb
       cases ig
       ·rw [show (!(false && mk)) = true by cases mk <;> rfl] at HSI
        clear ym y1 yi hgl0 hgl1
        go_wp2
        go_region
        have bd : Below wr.heap.size wr wr.drew := below_drewN (Below.refl _ _) 1
        obtain ⟨w5, hw5⟩ : ∃ x, wr.drew = x := ⟨_, rfl⟩
        rw [hw5] at bd ⊢
        clear hw5 y3 yg
        have how := (hos.call bd).alloc (.cells #[.int .i64 (i : Int)] 3)
        have hs3 : wC.heap.size ≤ (w5.alloc (.cells #[.int .i64 (i : Int)] 3)).heap.size := by rw [World.size_alloc]; have := hbs.size; have := bd.size; omega
        have HNX := Lib.hid (upL_next (s := seenB G lk.ign its) (i := i) (b := true) HSI.out)
        go_wp2_with (at_builtin; refine appP elt_int rfl _ _ rfl (w5.alloc (.cells #[.int .i64 (i : Int)] 3)) wC.heap.size _ _ _ (ic (natI (upL (seenB G lk.ign its) i 0))) _ 1 1 [.int .i64 (i : Int)] (by rfl) (by rfl) how rfl (fun _ => news_new _ _ _ (by omega)) (by simp [Value.oneCell']) (by omega) hs3 ?_; intro A' d' W4 ho4 hg4 hb4 hat4)
        have hbs4 : Below wC.heap.size wC W4 := ((hbs.trans (bd.mono hbs.size)).trans (((Below.refl w5.heap.size w5).alloc (Nat.le_refl _) (.cells #[.int .i64 (i : Int)] 3)).mono (by have := hbs.size; have := bd.size; omega))).trans hb4
        clear how hs3 hg4 hb4 hat4 hos hbs bd
        go_roundw
        case rel => exact ⟨i + 1, A', sq + 1, d', by go_num, by omega, rfl, by omega, (by rw [HNX.out, if_pos rfl, natI_app1, ic_app]; exact ho4), hbs4⟩
        case measure => simp [intOf] <;> omega
       ·rw [Bool.true_and] at HSI
        cases mk
        ·rw [show (!false) = true from rfl] at HSI
         go_wp2
         go_region
         have bd : Below wr.heap.size wr wr.drew := below_drewN (Below.refl _ _) 1
         obtain ⟨w5, hw5⟩ : ∃ x, wr.drew = x := ⟨_, rfl⟩
         rw [hw5] at bd ⊢
         clear hw5 y3 yg ym y1 yi
         have how := (hos.call bd).alloc (.cells #[.int .i64 (i : Int)] 3)
         have hs3 : wC.heap.size ≤ (w5.alloc (.cells #[.int .i64 (i : Int)] 3)).heap.size := by rw [World.size_alloc]; have := hbs.size; have := bd.size; omega
         have HNX := Lib.hid (upL_next (s := seenB G lk.ign its) (i := i) (b := true) HSI.out)
         go_wp2_with (at_builtin; refine appP elt_int rfl _ _ rfl (w5.alloc (.cells #[.int .i64 (i : Int)] 3)) wC.heap.size _ _ _ (ic (natI (upL (seenB G lk.ign its) i 0))) _ 1 1 [.int .i64 (i : Int)] (by rfl) (by rfl) how rfl (fun _ => news_new _ _ _ (by omega)) (by simp [Value.oneCell']) (by omega) hs3 ?_; intro A' d' W4 ho4 hg4 hb4 hat4)
         have hbs4 : Below wC.heap.size wC W4 := ((hbs.trans (bd.mono hbs.size)).trans (((Below.refl w5.heap.size w5).alloc (Nat.le_refl _) (.cells #[.int .i64 (i : Int)] 3)).mono (by have := hbs.size; have := bd.size; omega))).trans hb4
         clear how hs3 hg4 hb4 hat4 hos hbs bd
         go_roundw
         case rel => exact ⟨i + 1, A', sq + 1, d', by go_num, by omega, rfl, by omega, (by rw [HNX.out, if_pos rfl, natI_app1, ic_app]; exact ho4), hbs4⟩
         case measure => simp [intOf] <;> omega
        ·rw [show (!true) = false from rfl] at HSI
         go_wp2
         go_region
         have bd : Below wr.heap.size wr wr.drew := below_drewN (Below.refl _ _) 1
         obtain ⟨w5, hw5⟩ : ∃ x, wr.drew = x := ⟨_, rfl⟩
         rw [hw5] at bd ⊢
         clear hw5 y3 yg ym y1 yi
         have HNX := Lib.hid (upL_next (s := seenB G lk.ign its) (i := i) (b := false) HSI.out)
         have hbs4 : Below wC.heap.size wC w5 := hbs.trans (bd.mono hbs.size)
         have hos4 := hos.call bd
         clear hos hbs bd
         go_wp2
         go_roundw
         case rel => exact ⟨i + 1, SA, sq, sc, by go_num, by omega, rfl, by omega, (by rw [HNX.out, if_neg (by decide)]; exact hos4), hbs4⟩
         case measure => simp [intOf] <;> omega
      ·have in0 : ¬ (i : Int) < (m : Int) := by omega
       have hie : i = its.length := by rw [HIL.out]; omega
       subst hie
       clear hlt him
       go_wp2
       go_meet
       exact ⟨SA, sq, sc, rfl, hos, hbs⟩
    case rest =>
     clear hos0 hbs0
     obtain ⟨SA, sq, sc, rfl, hos, hbS⟩ := hcut
     generalize hwcr : wc = wS at *
     clear hwcr wc
     have hsl : (natI (upL (seenB G lk.ign its) its.length 0)).length = sq := by have := hos.len; rw [ic_len] at this; omega
     rw [natI_len] at hsl
     have hrS : Rd wS (lo wS.heap.size) SA sq (natI (upL (seenB G lk.ign its) its.length 0)) := hos.rd
     obtain ⟨SS, hSS⟩ : ∃ y, upL (seenB G lk.ign its) its.length 0 = y := ⟨_, rfl⟩
     rw [hSS] at hsl hrS
     have HSS := Lib.hid hSS
     have HSL := Lib.hid hsl
     have HRS := Lib.hid hrS
     have HIS := Lib.hid (HIC.out.call hbS)
     have HBS := Lib.hid (And.intro (below_call HBC.out.1 hbS) (below_call HBC.out.2 hbS))
     have hsc : sq ≤ 9223372036854775807 := by have := hos.cap; omega
     have hs20 : sq ≤ 20 := by
      have h1 := upL_len (seenB G lk.ign its) its.length 0
      rw [hSS] at h1
      have := HIL.out
      omega
     have HSM := Lib.hid fun (q p : Nat) (hq : SS[q]? = some p) => (show p < its.length from by rw [← hSS] at hq; exact (upL_mem.1 (List.mem_of_getElem? hq)).2.1)
     clear hsl hrS hos hbS hSS
     have bz := Below.refl wS.heap.size wS
     go_upto_region 21 with fail
     go_loopw [16] (fun kv wr => ∃ (k : Nat), kv = .int .i64 (k : Int) ∧ k ≤ sq ∧ Below wS.heap.size wS wr) (fun kv _ => sq - (intOf kv).toNat)
     case atStart => exact ⟨0, rfl, by omega, bz⟩
     case round =>
      clear bz
      obtain ⟨k, rfl, hks, hbK⟩ := hrel
      by_cases hlt : k < sq
      ·have in0 : (k : Int) < (sq : Int) := by omega
       obtain ⟨p, hp⟩ := at_some SS k (by rw [HSL.out]; omega)
       have HP := Lib.hid hp
       obtain ⟨sb, so, rfl, hsb, hsc2⟩ := HRS.out.pos (show 0 < sq by omega)
       obtain ⟨ib, io, rfl, hib, hic2⟩ := HIS.out.pos (show 0 < m by have := HSM.out k p hp; have := HIL.out; omega)
       have HSC := Lib.hid fun (W : World) (bW : Below wS.heap.size wS W) (q x : Nat) (hq : SS[q]? = some x) => (show W.cell? ⟨sb, so + q, none⟩ = some (.int .i64 (x : Int)) from by
        obtain ⟨_, rfl, h3⟩ := hsc2 q (x : Int) (natI_at hq)
        have h4 := h3 0 _ rfl
        rw [Nat.mul_one, Nat.add_zero] at h4
        exact (bW.cell (p := ⟨sb, so + q, none⟩) hsb).trans h4)
       have HGC := Lib.hid fun (W : World) (bW : Below wS.heap.size wS W) (q : Nat) (hq : q < its.length) => (show W.cell? ⟨ib, io + q * 6, none⟩ = some (.int .i64 (gAt its q)) from by
        obtain ⟨it, hit⟩ := at_some its q hq
        obtain ⟨_, rfl, h3⟩ := hic2 q it hit
        have h4 := h3 0 _ rfl
        rw [Nat.add_zero] at h4
        rw [gAt_some hit]
        exact (bW.cell (p := ⟨ib, io + q * 6, none⟩) hib).trans h4)
       clear hsc2 hic2 hp hsb hib
       have HBK := Lib.hid hbK
       obtain ⟨wK, hwK⟩ : ∃ x, wr = x := ⟨_, rfl⟩
       rw [hwK] at hbK HBK ⊢
       clear hwK wr
       have htw : Two wK ((wK.alloc (.cells #[] 3)).alloc (.cells #[] 3)) (some ⟨wK.heap.size, 0, none⟩) 0 0 (((SS.take k).reverse.take 0).map (gAt its)) (some ⟨wK.heap.size + 1, 0, none⟩) 0 0 [] := by
        have h2 := ow_none 3 1 (wK.alloc (.cells #[] 3)) wK.heap.size (by rw [World.size_alloc]; omega)
        rw [World.size_alloc] at h2
        exact ⟨below_lit _ _ (below_lit _ _ (Below.refl _ _) _) _, (ow_none 3 1 wK wK.heap.size (Nat.le_refl _)).alloc _, h2, fun b e1 e2 => by
         injection e1 with e1; injection e2 with e2
         have e1' : wK.heap.size = b := e1
         have e2' : wK.heap.size + 1 = b := e2
         omega⟩
       clear hbK
       go_upto_region 26 with fail
       obtain ⟨Af, hAf⟩ : ∃ A : Option Addr, some ⟨wK.heap.size + 1, 0, none⟩ = A := ⟨_, rfl⟩
       rw [hAf] at htw
       try rw [hAf]
       clear hAf
       generalize (wK.alloc (.cells #[] 3)).alloc (.cells #[] 3) = w8' at *
       go_loopw [17, 19] (fun bv mv wr => ∃ (j q : Nat) (Ax : Option Addr) (d : Nat), j + q = k ∧ mv = .int .i64 ((q : Int) - 1) ∧ bv = .slice Ax j d ∧ Two wK wr Ax j d (((SS.take k).reverse.take j).map (gAt its)) Af 0 0 []) (fun _ mv _ => (intOf mv + 1).toNat)
       case atStart => exact ⟨0, k, _, _, by omega, rfl, rfl, htw⟩
       case round =>
        clear htw
        obtain ⟨j, q, Ax, db, hjq, rfl, rfl, htw⟩ := hrel
        have hjk : j ≤ k := by omega
        by_cases hq0 : q = 0
        ·have t0 : decide ((0 : Int) ≤ (q : Int) - 1) = false := by simp; omega
         have i0 : ¬ (0 : Int) ≤ (q : Int) - 1 := by omega
         have hjk2 : k ≤ j := by omega
         have htw2 : Two wK wr Ax j db (((SS.take k).reverse.take j).map (gAt its)) Af 0 0 (((SS.drop k).take 0).map (gAt its)) := htw
         have HJ := Lib.hid (show ((SS.take k).reverse.take j) = (SS.take k).reverse from List.take_of_length_le (by rw [List.length_reverse, List.length_take]; omega))
         rw [HJ.out] at htw2
         clear HJ htw hjq hq0
         go_upto_region 30 with fail
         clear t0 i0
         obtain ⟨w9', hw9⟩ : ∃ x, wr = x := ⟨_, rfl⟩
         rw [hw9] at htw2 ⊢
         clear hw9 wr
         go_loopw [18, 20] (fun bv mv wr => ∃ (f : Nat) (Ay : Option Addr) (d : Nat), k + f ≤ sq ∧ mv = .int .i64 (((k + f : Nat) : Int)) ∧ bv = .slice Ay f d ∧ Two wK wr Ax j db (((SS.take k).reverse).map (gAt its)) Ay f d (((SS.drop k).take f).map (gAt its))) (fun _ mv _ => sq - (intOf mv).toNat)
         case atStart => exact ⟨0, _, _, by omega, rfl, rfl, htw2⟩
         case round =>
          clear htw2
          obtain ⟨f, Ay, df, hkf, rfl, rfl, htw⟩ := hrel
          obtain ⟨kf, hkfe⟩ : ∃ x : Nat, k + f = x := ⟨_, rfl⟩
          rw [hkfe] at hkf
          rw [hkfe]
          by_cases hl2 : kf < sq
          ·have in2 : (kf : Int) < (sq : Int) := by omega
           have iz2 : (0 : Int) ≤ (kf : Int) := by omega
           obtain ⟨p2, hp2⟩ := at_some SS kf (by rw [HSL.out]; omega)
           have hb2 := below_call HBK.out htw.bl
           have ys := HSC.out wr hb2 kf p2 hp2
           have hpl := HSM.out kf p2 hp2
           have yi := HGC.out wr hb2 p2 hpl
           have pz : (0 : Int) ≤ (p2 : Int) := by omega
           have pn : (p2 : Int) < (m : Int) := by have := HIL.out; omega
           have HFX := Lib.hid (fk_next (S := SS) (run := its) (k := k) (j := f) (p := p2) (by rw [hkfe]; exact hp2))
           have HKF := Lib.hid hkfe
           obtain ⟨gx, hgx⟩ : ∃ y, gAt its p2 = y := ⟨_, rfl⟩
           rw [hgx] at yi HFX
           have how := (htw.o1.call (Below.refl _ _)).alloc (.cells #[.int .i64 gx] 3)
           have hs3 : wK.heap.size ≤ (wr.alloc (.cells #[.int .i64 gx] 3)).heap.size := by rw [World.size_alloc]; have := htw.bl.size; omega
           have HTW := Lib.hid htw
           have hf20 : f ≤ 20 := by omega
           clear hp2 hb2 hpl hkfe hgx htw
           go_wp2_with (at_builtin; refine appP elt_int rfl _ _ rfl (wr.alloc (.cells #[.int .i64 gx] 3)) wK.heap.size _ _ _ (ic (((SS.drop k).take f).map (gAt its))) _ 1 1 [.int .i64 gx] (by rfl) (by rfl) how rfl (fun _ => news_new _ _ _ (by omega)) (by simp [Value.oneCell']) (by omega) hs3 ?_; intro A' d' W4 ho4 hg4 hb4 hat4)
           have hp := HTW.out.push1 (Below.refl _ _) ho4 hg4 hb4 hat4
           rw [← HFX.out] at hp
           clear how hs3 ho4 hg4 hb4 hat4 ys yi
           go_roundw
           case rel => exact ⟨f + 1, A', d', by have := HKF.out; omega, by have := HKF.out; go_num, rfl, hp⟩
           case measure => simp [intOf] <;> omega
          ·have in2 : ¬ (kf : Int) < (sq : Int) := by omega
           have HFT := Lib.hid (show ((SS.drop k).take f) = SS.drop k from List.take_of_length_le (by rw [List.length_drop, HSL.out]; omega))
           rw [HFT.out] at htw
           have HJK := Lib.hid (show j = k by omega)
           have hf20 : f ≤ 20 := by omega
           clear HFT hl2 hkfe
           have hbw2 : Below wB.heap.size wB wr := below_call (below_call HBS.out.1 HBK.out) htw.bl
           have hbwK : Below wS.heap.size wS wr := below_call HBK.out htw.bl
           have hIw : RdI wr (lo wr.heap.size) (some ⟨ib, io, none⟩) m its := HIS.out.call hbwK
           have hGw := HGB.out.call hbw2
           have kgw := KGB.out.below hbw2 KGB.out.lt
           have hAw := HAB.out.call hbw2
           have hTw := HTT.out wr (below_call HBS.out.2 hbwK)
           have r0 := htw.o0.rd
           have r1 := htw.o1.rd
           have yk := HSC.out wr hbwK k p HP.out
           obtain ⟨rz, hrz⟩ : ∃ y, ruleZ (matchQ G (n : Int) its (p : Int) []) = y := ⟨_, rfl⟩
           have HRZ := Lib.hid hrz
           have HEQ := Lib.hid (show firstZ (backA a (((SS.take k).reverse).map (gAt its)) &&& foreA a ((SS.drop k).map (gAt its))) = ruleZ (matchQ G (n : Int) its (p : Int) []) from by
            rw [matchQ_some HLA.out, ← HSS.out]
            exact match_first HAU.out.2 HAU.out.1 HGI.out (by rw [HSS.out]; exact HP.out))
           have HMA := Lib.hid fun (W : World) (bW : Below wr.heap.size wr W) => rMatch_c g G (n : Int) (some ⟨ib, io, none⟩) m d its (p : Int) none 0 0 [] W (hGw.call bW) (hIw.call bW) SlE.nil (by omega) (by omega) (fun lk hlk => (HLB.out lk hlk).rch)
           have HFI := Lib.hid fun (W : World) (bW : Below wr.heap.size wr W) => First_c v a Ax Ay j db f df (((SS.take k).reverse).map (gAt its)) ((SS.drop k).map (gAt its)) W (hAw.call bW) (r0.call bW) (r1.call bW) (by omega) (by omega) (hTw.call bW hTw.pos)
           unfold AV.cells at HFI
           unfold FV.cells at HMA
           have kz : (0 : Int) ≤ (k : Int) := by omega
           clear hIw hGw hAw hTw r0 r1 htw hrz
           go_upto_region 33 with fail
           clear in2 in0
           have v0 := box_cells kgw 0 rfl
           have v1 := box_cells kgw 1 rfl
           have v2 := box_cells kgw 2 rfl
           have v3 := box_cells kgw 3 rfl
           have v4 := box_cells kgw 4 rfl
           have v5 := box_cells kgw 5 rfl
           have v6 := box_cells kgw 6 rfl
           have v7 := box_cells kgw 7 rfl
           have v8 := box_cells kgw 8 rfl
           clear kgw
           have HS := Lib.hid fun (W : World) (bW : Below wr.heap.size wr W) => (show W.cell? ⟨gg, 0, none⟩ = some (.int .i64 g.u0) ∧ W.cell? ⟨gg, 1, none⟩ = some (.slice g.ga g.gn g.gc) ∧ W.cell? ⟨gg, 2, none⟩ = some (.slice g.ca g.cn g.cc) ∧ W.cell? ⟨gg, 3, none⟩ = some (.slice g.la g.ln g.lc) ∧ W.cell? ⟨gg, 4, none⟩ = some (.slice g.a4 g.n4 g.c4) ∧ W.cell? ⟨gg, 5, none⟩ = some (.slice g.a5 g.n5 g.c5) ∧ W.cell? ⟨gg, 6, none⟩ = some (.slice g.a6 g.n6 g.c6) ∧ W.cell? ⟨gg, 7, none⟩ = some (.slice g.a7 g.n7 g.c7) ∧ W.cell? ⟨gg, 8, none⟩ = some (.slice g.a8 g.n8 g.c8) ∧ W.cell? ⟨sb, so + k, none⟩ = some (.int .i64 (p : Int)) from ⟨cell_call v0 bW, cell_call v1 bW, cell_call v2 bW, cell_call v3 bW, cell_call v4 bW, cell_call v5 bW, cell_call v6 bW, cell_call v7 bW, cell_call v8 bW, cell_call yk bW⟩)
           have bb := Below.refl wr.heap.size wr
           refine wp_region_held_drew (S := fun w' => w'.cell? ⟨gg, 0, none⟩ = some (.int .i64 g.u0) ∧ w'.cell? ⟨gg, 1, none⟩ = some (.slice g.ga g.gn g.gc) ∧ w'.cell? ⟨gg, 2, none⟩ = some (.slice g.ca g.cn g.cc) ∧ w'.cell? ⟨gg, 3, none⟩ = some (.slice g.la g.ln g.lc) ∧ w'.cell? ⟨gg, 4, none⟩ = some (.slice g.a4 g.n4 g.c4) ∧ w'.cell? ⟨gg, 5, none⟩ = some (.slice g.a5 g.n5 g.c5) ∧ w'.cell? ⟨gg, 6, none⟩ = some (.slice g.a6 g.n6 g.c6) ∧ w'.cell? ⟨gg, 7, none⟩ = some (.slice g.a7 g.n7 g.c7) ∧ w'.cell? ⟨gg, 8, none⟩ = some (.slice g.a8 g.n8 g.c8) ∧ w'.cell? ⟨sb, so + k, none⟩ = some (.int .i64 (p : Int))) (by kernel_rfl) ?_ (fun hHeld => ?_)
           ·exact HS.out _ (below_drewN bb 1)
           replace bb := below_drewN bb 1
           change Below _ _ wr.drew at bb
           generalize hw0 : wr.drew = W0 at hHeld bb ⊢
           clear hw0
           refine tkC 0 ?_
           refine tkC 1 ?_
           refine tkC 2 ?_
           refine tkC 3 ?_
           refine tkC 4 ?_
           refine tkC 5 ?_
           refine tkC 6 ?_
           refine rd1 7 fun K hK => ?_
           refine wy ?_
           go_simp
           clear hHeld
           go_at_call 32
           (with_reducible refine (HMA.out _ bb).mono ?_)
           intro e V1 hmp
           obtain ⟨MA, mn, mc, rfl, bn⟩ := hmp.num
           clear hmp
           rw [HRZ.out]
           go_wp2_with fail
           refine hK.out _ _ (HS.out _ (bb.trans (bn.mono bb.size))) fun hHeld => ?_
           clear hK K
           replace bb := bb.trans (bn.mono bb.size)
           clear bn
           refine tkC 8 ?_
           refine tkC 9 ?_
           refine tkC 10 ?_
           refine tkC 11 ?_
           refine tkC 12 ?_
           refine wpAnyH_done (by kernel_rfl) ?_ _
           clear hHeld HS HMA yk v0 v1 v2 v3 v4 v5 v6 v7 v8
           have kAw := (KAB.out.below hbw2 KAB.out.lt).below bb (by have := KAB.out.lt; have := hbw2.size; omega)
           have HF1 := Lib.hid (HFI.out V1 bb)
           have bV := below_call hbwK bb
           clear HFI bb
           have a0 := box_cells kAw 0 rfl
           have a1 := box_cells kAw 1 rfl
           have a2 := box_cells kAw 2 rfl
           have a3 := box_cells kAw 3 rfl
           have a4 := box_cells kAw 4 rfl
           clear kAw
           go_wp2_with fail
           refine HF1.out.mono ?_
           rintro e W6 ⟨rfl, bn⟩
           rw [HEQ.out, HRZ.out]
           have tz : (rz != rz) = false := by simp
           have bV2 := bV.trans (bn.mono bV.size)
           clear HF1 bn bV a0 a1 a2 a3 a4
           go_wp2
           go_roundw
           case rel => exact ⟨k + 1, by go_num, by omega, bV2⟩
           case measure => simp [intOf] <;> omega
        ·obtain ⟨q', rfl⟩ : ∃ x, q = x + 1 := ⟨q - 1, by omega⟩
         have eq1 : (((q' + 1 : Nat) : Int) - 1) = (q' : Int) := by omega
         rw [eq1]
         have t0 : decide ((0 : Int) ≤ (q' : Int)) = true := by simp
         have i0 : (0 : Int) ≤ (q' : Int) := by omega
         have qn : (q' : Int) < (sq : Int) := by omega
         obtain ⟨p2, hp2⟩ := at_some SS q' (by rw [HSL.out]; omega)
         have hb2 := below_call HBK.out htw.bl
         have ys := HSC.out wr hb2 q' p2 hp2
         have hpl := HSM.out q' p2 hp2
         have yi := HGC.out wr hb2 p2 hpl
         have pz : (0 : Int) ≤ (p2 : Int) := by omega
         have pn : (p2 : Int) < (m : Int) := by have := HIL.out; omega
         have HBX := Lib.hid (bk_next (S := SS) (run := its) (k := k) (j := j) (q := q') (p := p2) (by rw [HSL.out]; omega) hjq hp2)
         obtain ⟨gx, hgx⟩ : ∃ y, gAt its p2 = y := ⟨_, rfl⟩
         rw [hgx] at yi HBX
         have how := (htw.o0.call (Below.refl _ _)).alloc (.cells #[.int .i64 gx] 3)
         have hs3 : wK.heap.size ≤ (wr.alloc (.cells #[.int .i64 gx] 3)).heap.size := by rw [World.size_alloc]; have := htw.bl.size; omega
         have HTW := Lib.hid htw
         have HJQ := Lib.hid hjq
         have hj20 : j ≤ 20 := by omega
         clear hp2 hb2 hpl hgx htw eq1 hq0 hjq
         go_wp2_with (at_builtin; refine appP elt_int rfl _ _ rfl (wr.alloc (.cells #[.int .i64 gx] 3)) wK.heap.size _ _ _ (ic (((SS.take k).reverse.take j).map (gAt its))) _ 1 1 [.int .i64 gx] (by rfl) (by rfl) how rfl (fun _ => news_new _ _ _ (by omega)) (by simp [Value.oneCell']) (by omega) hs3 ?_; intro A' d' W4 ho4 hg4 hb4 hat4)
         have hp := HTW.out.push0 (Below.refl _ _) ho4 hg4 hb4 hat4
         rw [← HBX.out] at hp
         clear how hs3 ho4 hg4 hb4 hat4 ys yi
         go_roundw
         case rel => exact ⟨j + 1, q', A', d', by have := HJQ.out; omega, by go_num, rfl, hp⟩
         case measure => simp [intOf] <;> omega
      ·have in0 : ¬ (k : Int) < (sq : Int) := by omega
       have hbf := below_call HBS.out.2 hbK
       clear hbK
       go_wp2
       go_ret
       exact ⟨rfl, hbf⟩
end Go.Proofs.YtgcmedkaadagmaaDoor
