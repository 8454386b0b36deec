/- Walks: AutomatonProved. -/
import Derived.Test.YtgcmedkaadagmaaDoorYc
import Derived.Test.YtgcmedkaadagmaaDoorYl
import Derived.Test.YtgcmedkaadagmaaDoorL9
import Derived.Test.YtgcmedkaadagmaaDoorV20
namespace Go.Proofs.YtgcmedkaadagmaaDoor
open Go.RowKit Go.Shelf Go.Maps

theorem rdR_takep {w : World} {S : Nat → Prop} {A : Option Addr} {n m k : Nat} {xs : List Rul} (h : RdR w S A n xs) (hm : m = min n k) : RdR w S A m (xs.take k) := by
 have h1 : RdR w S A m (xs.take m) := SlE.take h m (by omega)
 have h2 : xs.take m = xs.take k := by
  have h3 := h.len
  by_cases h4 : k ≤ n
  ·rw [show m = k by omega]
  ·rw [List.take_of_length_le (by omega), List.take_of_length_le (by omega)]
 rwa [h2] at h1
theorem doesF_built {F : Fnt} {k er : Int} {a : Au} (h : buildL F k = (some a, er)) : DoesF F k a := by
 obtain ⟨lk, h1, _, _, _, h2, _⟩ := buildL_some h
 exact ⟨lk, a, er, h1, h, doesL_built h2⟩

set_option maxRecDepth 100000 in
set_option maxHeartbeats 4000000 in
theorem automatonProved_walk (g0 : Int) (A0 : Option Addr) (n0 c0 : Nat) (rs : List Rul) (A1 : Option Addr) (n1 c1 : Nat) (nums : List Int) (w : World) (h : RdR w (lo w.heap.size) A0 n0 rs) (hh : Hd n0 c0) (h1 : Rd w (lo w.heap.size) A1 n1 nums) (g1 : Hd n1 c1) (hT : Tab w) : Calls Tryd.prog 3 #[.int .i64 g0, .slice A0 n0 c0, .slice A1 n1 c1] w fun e w' => e = .returned (.bool true) ∧ Below w.heap.size w w' := by
 obtain ⟨m3, hm3⟩ : ∃ m : Nat, m = min n0 3 := ⟨_, rfl⟩
 have m3a : min (n0 : Int) 3 = (m3 : Int) := by omega
 have m3b : (if (3 : Int) < (n0 : Int) then (3 : Int) else (n0 : Int)) = (m3 : Int) := by split <;> omega
 have m3z : (0 : Int) ≤ (m3 : Int) := by omega
 have m3c : (m3 : Int) ≤ (c0 : Int) := by have := hh.1; omega
 have m3d : c0 ≤ 9223372036854775807 := hh.2
 have hh3 : Hd m3 c0 := ⟨by have := hh.1; omega, hh.2⟩
 have HM3 := Lib.hid hm3
 have HNU := Lib.hid fun (W : World) (bW : Below w.heap.size w W) => h1.call bW
 have HHN := Lib.hid g1
 clear h1 hm3 g1
 have hTp := hT.pos
 have b0 : Below w.heap.size w w := Below.refl _ _
 have HSH := Lib.hid (shown_c w (hT.call b0 hTp))
 have HTT := Lib.hid fun (W : World) (bW : Below w.heap.size w W) => hT.call bW hTp
 have HR := Lib.hid fun (W : World) (bW : Below w.heap.size w W) => h.call bW
 clear h hT
 go_enter Tryd.func3, Tryd.ntmps3
 go_wp2_with fail
 refine HSH.out.mono ?_
 rintro e w1 ⟨rfl, bn⟩
 have b1 := below_call b0 bn
 have HM := Lib.hid (made_c g0 A0 m3 c0 (rs.take 3) w1 (rdR_takep (HR.out w1 b1) HM3.out) hh3)
 clear HSH b0 bn
 go_wp2_with fail
 refine HM.out.mono ?_
 rintro e w2 ⟨f, rfl, hF, bn⟩
 have b2 := below_call b1 bn
 obtain ⟨gn, hgn⟩ : ∃ n : Nat, glyN g0 = n := ⟨_, rfl⟩
 have hgn8 : gn ≤ 8 := hgn ▸ glyN_le g0
 have hgn0 : 0 < gn := hgn ▸ glyN_pos g0
 rw [hgn] at hF
 clear hgn
 have b23 : Below w2.heap.size w2 (w2.alloc (.cells #[.int .i64 f.u0, .slice f.ga f.gn f.gc, .slice f.ca f.cn f.cc, .slice f.la f.ln f.lc, .slice f.a4 f.n4 f.c4, .slice f.a5 f.n5 f.c5, .slice f.a6 f.n6 f.c6, .slice f.a7 f.n7 f.c7, .slice f.a8 f.n8 f.c8] 33)) := (Below.refl _ _).alloc (Nat.le_refl _) _
 have hF2 : IsF w2 (lo w2.heap.size) f (fontF gn (madeR (rs.take 3))) := hF.mono (fun _ hb => hb.2) (Kept.refl _ _)
 have hF3 := hF2.call b23
 have kf3 := Bk.new w2 33 #[.int .i64 f.u0, .slice f.ga f.gn f.gc, .slice f.ca f.cn f.cc, .slice f.la f.ln f.lc, .slice f.a4 f.n4 f.c4, .slice f.a5 f.n5 f.c5, .slice f.a6 f.n6 f.c6, .slice f.a7 f.n7 f.c7, .slice f.a8 f.n8 f.c8]
 have b3 := below_call b2 b23
 obtain ⟨a, ha, hbl⟩ := made_build (rs.take 3) hgn0 hgn8
 have hbl2 : buildL (fontF gn (madeR (rs.take 3))) 0 = (some a, 0) := hbl
 have HB := Lib.hid (build_c f (fontF gn (madeR (rs.take 3))) 0 _ hF3 (fun lk h _ => by rw [fontF_lk, if_pos rfl] at h; injection h with h; subst h; exact made_sm (rs.take 3)))
 have HBL := Lib.hid hbl2; have HAU := Lib.hid ha
 unfold FV.cells at HB
 clear HM b1 b2 b23 bn hF hF2 hbl hbl2 ha
 go_wp2_with fail
 refine HB.out.mono ?_
 rintro e w4 ⟨bn, hm⟩
 rw [HBL.out] at hm
 obtain ⟨v, rfl, hA4⟩ := hm
 have b4 := below_call b3 bn
 have hF4 := hF3.call bn
 have kf4 := kf3.below bn kf3.lt
 clear HB b3 hF3 kf3 bn
 unfold AV.cells at *
 clear m3a m3b m3z m3c m3d hh3 HM3
 have HSM := Lib.hid (show ∀ lk, lkAt (fontF gn (madeR (rs.take 3))) 0 = some lk → lk.rules.length ≤ 64 → SmB lk.rules from fun lk h _ => by rw [fontF_lk, if_pos rfl] at h; injection h with h; subst h; exact made_sm (rs.take 3))
 have hau2 := auto_lenp HAU.out
 have bl := below_lit w4 w4 (Below.refl _ _) (.cells #[.slice v.ca v.cn v.cc, .slice v.fa v.fn v.fc, .slice v.ba v.bn v.bc, .slice v.ea v.en v.ec, .slice v.ga v.gn v.gc] 38)
 have HD := Lib.hid (does_c f (fontF gn (madeR (rs.take 3))) 0 v a (w4.alloc (.cells #[.slice v.ca v.cn v.cc, .slice v.fa v.fn v.fc, .slice v.ba v.bn v.bc, .slice v.ea v.en v.ec, .slice v.ga v.gn v.gc] 38)) (hF4.call bl) HSM.out (hA4.mono (fun x hx => by show x < _; rw [World.size_alloc]; exact Nat.lt_succ_of_lt hx) (fun x hx => bl.block x hx)) hau2.1 hau2.2)
 unfold AV.cells at HD
 unfold FV.cells at HD
 have kf5 := kf4.below bl kf4.lt
 have b5 := below_call b4 bl
 clear bl hau2 hA4 hF4 kf4 b4 HSM
 have v0 := box_cells kf5 0 rfl
 have v1 := box_cells kf5 1 rfl
 have v2 := box_cells kf5 2 rfl
 have v3 := box_cells kf5 3 rfl
 have v4 := box_cells kf5 4 rfl
 have v5 := box_cells kf5 5 rfl
 have v6 := box_cells kf5 6 rfl
 have v7 := box_cells kf5 7 rfl
 have v8 := box_cells kf5 8 rfl
 clear kf5
 go_wp2_with fail
 refine HD.out.mono ?_
 rintro e w6 ⟨bn, z, rfl, hz⟩
 obtain rfl : z = true := hz.2 (doesF_built HBL.out)
 have b6 := below_call b5 bn
 clear HD hz bn b5 v0 v1 v2 v3 v4 v5 v6 v7 v8 HBL HAU
 obtain ⟨m6, hm6⟩ : ∃ m : Nat, m = min n1 60 := ⟨_, rfl⟩
 have m6a : min (n1 : Int) 60 = (m6 : Int) := by omega
 have m6b : (if (60 : Int) < (n1 : Int) then (60 : Int) else (n1 : Int)) = (m6 : Int) := by split <;> omega
 have m6z : (0 : Int) ≤ (m6 : Int) := by omega
 have m6c : (m6 : Int) ≤ (c1 : Int) := by have := HHN.out.1; omega
 have m6d : c1 ≤ 9223372036854775807 := HHN.out.2

 have HMD := Lib.hid (bmade_c A1 m6 c1 (nums.take 60) w6 (rd_takep (HNU.out w6 b6) hm6) ⟨by omega, by omega⟩)
 clear hm6
 go_upto_region 6 with fail
 go_wp2_with fail
 refine HMD.out.mono ?_
 rintro e w7 ⟨g, G, rfl, hG, hg2, hg10, hl6, hlb, bn⟩
 have bl := below_lit w7 w7 (Below.refl _ _) (.cells #[.int .i64 g.u0, .slice g.ga g.gn g.gc, .slice g.ca g.cn g.cc, .slice g.la g.ln g.lc, .slice g.a4 g.n4 g.c4, .slice g.a5 g.n5 g.c5, .slice g.a6 g.n6 g.c6, .slice g.a7 g.n7 g.c7, .slice g.a8 g.n8 g.c8] 33)
 have kg := Bk.new w7 33 #[.int .i64 g.u0, .slice g.ga g.gn g.gc, .slice g.ca g.cn g.cc, .slice g.la g.ln g.lc, .slice g.a4 g.n4 g.c4, .slice g.a5 g.n5 g.c5, .slice g.a6 g.n6 g.c6, .slice g.a7 g.n7 g.c7, .slice g.a8 g.n8 g.c8]
 have hG8 : IsF (w7.alloc (.cells #[.int .i64 g.u0, .slice g.ga g.gn g.gc, .slice g.ca g.cn g.cc, .slice g.la g.ln g.lc, .slice g.a4 g.n4 g.c4, .slice g.a5 g.n5 g.c5, .slice g.a6 g.n6 g.c6, .slice g.a7 g.n7 g.c7, .slice g.a8 g.n8 g.c8] 33)) (lo (w7.alloc (.cells #[.int .i64 g.u0, .slice g.ga g.gn g.gc, .slice g.ca g.cn g.cc, .slice g.la g.ln g.lc, .slice g.a4 g.n4 g.c4, .slice g.a5 g.n5 g.c5, .slice g.a6 g.n6 g.c6, .slice g.a7 g.n7 g.c7, .slice g.a8 g.n8 g.c8] 33)).heap.size) g G := (hG.mono (fun _ hb => hb.2) (Kept.refl _ _)).call bl
 have b8 := below_call (below_call b6 bn) bl
 have HLB := Lib.hid hlb
 have HLL := Lib.hid hG8.2.1.len
 clear HMD hG bn b6 bl hlb m6a m6b m6z m6c m6d
 go_upto_region 8 with fail
 obtain ⟨w8, hw8⟩ : ∃ W, w7.alloc (.cells #[.int .i64 g.u0, .slice g.ga g.gn g.gc, .slice g.ca g.cn g.cc, .slice g.la g.ln g.lc, .slice g.a4 g.n4 g.c4, .slice g.a5 g.n5 g.c5, .slice g.a6 g.n6 g.c6, .slice g.a7 g.n7 g.c7, .slice g.a8 g.n8 g.c8] 33) = W := ⟨_, rfl⟩
 obtain ⟨gg, hgg⟩ : ∃ x, w7.heap.size = x := ⟨_, rfl⟩
 rw [hw8] at kg hG8 b8
 rw [hgg] at kg
 try rw [hw8]
 try rw [hgg]
 clear hw8 hgg
 have HB8 := Lib.hid b8
 have HG8 := Lib.hid (And.intro kg hG8)
 have bz := Below.refl w8.heap.size w8
 clear b8 kg hG8
 go_loopw [12] (fun iv wr => ∃ (i : Nat), iv = .int .i64 (i : Int) ∧ i ≤ g.ln ∧ Below w8.heap.size w8 wr) (fun iv _ => g.ln - (intOf iv).toNat)
 case atStart => exact ⟨0, rfl, by omega, bz⟩
 case round =>
  clear bz
  obtain ⟨i, rfl, hi, hb⟩ := hrel
  have kg := HG8.out.1.below hb HG8.out.1.lt
  have hG := HG8.out.2.call hb
  have hb0 := HB8.out
  have q0 := box_cells kg 0 rfl
  have q1 := box_cells kg 1 rfl
  have q2 := box_cells kg 2 rfl
  have q3 := box_cells kg 3 rfl
  have q4 := box_cells kg 4 rfl
  have q5 := box_cells kg 5 rfl
  have q6 := box_cells kg 6 rfl
  have q7 := box_cells kg 7 rfl
  have q8 := box_cells kg 8 rfl
  clear kg
  by_cases hlt : i < g.ln
  ·have in0 : (i : Int) < (g.ln : Int) := by omega
   have HBB := Lib.hid (build_c g G (i : Int) wr hG (lk_small HLB.out _))
   unfold FV.cells at HBB
   go_wp2_with fail
   refine HBB.out.mono ?_
   rintro e w9 ⟨bn, hm⟩
   have hb9 := hb.trans (bn.mono hb.size)
   have hG9 := hG.call bn
   have kg9 := HG8.out.1.below hb9 HG8.out.1.lt
   clear HBB hb hG q0 q1 q2 q3 q4 q5 q6 q7 q8
   obtain ⟨⟨ob, er⟩, hbl⟩ : ∃ x, buildL G (i : Int) = x := ⟨_, rfl⟩
   rw [hbl] at hm
   cases ob with
   | none =>
    dsimp only at hm
    subst hm
    have her := buildL_none hbl
    have hb10 := hb9.trans ((below_lit w9 w9 (Below.refl _ _) (.cells #[.slice none 0 0, .slice none 0 0, .slice none 0 0, .slice none 0 0, .slice none 0 0] 38)).mono hb9.size)
    clear hbl hG9 kg9 hb9
    rcases her with rfl | rfl
    ·go_wp2
     go_roundw
     case rel => exact ⟨i + 1, by go_num, by omega, hb10⟩
     case measure => simp [intOf] <;> omega
    ·go_wp2
     go_roundw
     case rel => exact ⟨i + 1, by go_num, by omega, hb10⟩
     case measure => simp [intOf] <;> omega
   | some b =>
    obtain ⟨u, rfl, hA9⟩ := hm
    unfold AV.cells
    have bl := below_lit w9 w9 (Below.refl _ _) (.cells #[.slice u.ca u.cn u.cc, .slice u.fa u.fn u.fc, .slice u.ba u.bn u.bc, .slice u.ea u.en u.ec, .slice u.ga u.gn u.gc] 38)
    have hdo := doesF_built hbl
    have hau2 : b.fore.length ≤ 20000 ∧ b.back.length ≤ 20000 := by
     obtain ⟨lk, _, _, _, _, hau, _⟩ := buildL_some hbl
     exact auto_lenp hau
    have HD := Lib.hid (does_c g G (i : Int) u b (w9.alloc (.cells #[.slice u.ca u.cn u.cc, .slice u.fa u.fn u.fc, .slice u.ba u.bn u.bc, .slice u.ea u.en u.ec, .slice u.ga u.gn u.gc] 38)) (hG9.call bl) (lk_small HLB.out _) (hA9.mono (fun x hx => by show x < _; rw [World.size_alloc]; exact Nat.lt_succ_of_lt hx) (fun x hx => bl.block x hx)) hau2.1 hau2.2)
    unfold AV.cells at HD
    unfold FV.cells at HD
    have kg10 := kg9.below bl kg9.lt
    have hb10 := hb9.trans (bl.mono hb9.size)
    have HDO := Lib.hid hdo
    clear bl hdo hau2 hA9 hG9 kg9 hb9 hbl
    have q0 := box_cells kg10 0 rfl
    have q1 := box_cells kg10 1 rfl
    have q2 := box_cells kg10 2 rfl
    have q3 := box_cells kg10 3 rfl
    have q4 := box_cells kg10 4 rfl
    have q5 := box_cells kg10 5 rfl
    have q6 := box_cells kg10 6 rfl
    have q7 := box_cells kg10 7 rfl
    have q8 := box_cells kg10 8 rfl
    clear kg10
    go_wp2_with fail
    refine HD.out.mono ?_
    rintro e wa ⟨bn2, z, rfl, hz⟩
    obtain rfl : z = true := hz.2 HDO.out
    have hb11 := hb10.trans (bn2.mono hb10.size)
    clear HD hz HDO hb10 bn2 q0 q1 q2 q3 q4 q5 q6 q7 q8
    go_wp2
    go_roundw
    case rel => exact ⟨i + 1, by go_num, by omega, hb11⟩
    case measure => simp [intOf] <;> omega
  ·have in0 : ¬ (i : Int) < (g.ln : Int) := by omega
   have hbf := below_call hb0 hb
   clear hG hb hb0 q0 q1 q2 q4 q5 q6 q7 q8
   go_wp2
   go_ret
   exact ⟨rfl, hbf⟩


end Go.Proofs.YtgcmedkaadagmaaDoor
