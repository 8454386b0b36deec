/- Walks: AutomatonBuilds. -/
import Derived.Test.YtgcmedkaadagmaaDoorL9
import Derived.Test.YtgcmedkaadagmaaDoorX6
namespace Go.Proofs.YtgcmedkaadagmaaDoor
open Go.RowKit Go.Shelf Go.Maps

def au0 : Au := ⟨[], [], [], [], []⟩
def auL (F : Fnt) (k : Int) : Au := match buildL F k with | (some a, _) => a | (none, _) => au0
def erL (F : Fnt) (k : Int) : Int := match buildL F k with | (some _, _) => 0 | (none, er) => er
theorem isA_zero (w : World) (S : Nat → Prop) : IsA w S ⟨none, 0, 0, none, 0, 0, none, 0, 0, none, 0, 0, none, 0, 0⟩ au0 :=
  ⟨⟨SlE.nil, SlE.nil, SlE.nil, ⟨Nat.le_refl _, by show 0 ≤ 9223372036854775807; omega⟩, ⟨Nat.le_refl _, by show 0 ≤ 9223372036854775807; omega⟩, ⟨Nat.le_refl _, by show 0 ≤ 9223372036854775807; omega⟩⟩, ⟨SlE.nil, SlE.nil, SlE.nil, ⟨Nat.le_refl _, by show 0 ≤ 9223372036854775807; omega⟩, ⟨Nat.le_refl _, by show 0 ≤ 9223372036854775807; omega⟩, ⟨Nat.le_refl _, by show 0 ≤ 9223372036854775807; omega⟩⟩⟩
theorem BuildR.gives {w w' : World} {F : Fnt} {k : Int} {e : Ending} (h : BuildR w F k e w') : ∃ v : AV, e = .returned (.tuple #[.agg v.cells, .int .i64 (erL F k)]) ∧ IsA w' (lo w'.heap.size) v (auL F k) ∧ Below w.heap.size w w' := by
  obtain ⟨hb, hm⟩ := h
  unfold auL erL
  rcases hbl : buildL F k with ⟨_ | a, er⟩
  · rw [hbl] at hm
    exact ⟨_, hm, isA_zero _ _, hb⟩
  · rw [hbl] at hm
    obtain ⟨v, h1, h2⟩ := hm
    exact ⟨v, h1, h2, hb⟩
theorem auB_of {rs : List Rul} {n : Nat} {a : Au} (h : autoL rs n = some a) (_ : n ≤ 65536) : AuB a := by
  obtain ⟨x, y, hx, hy, rfl⟩ := autoL_some h
  have key : ∀ (back : Bool) (z : List (List Int) × List (Nat × Nat)), halfL (kindF back) rs n = some z → ∀ r ∈ z.1, r.length ≤ 1000000000 := fun back z hz r hr => by
    have hst := half_ok hz
    obtain ⟨i, hi⟩ := List.mem_iff_getElem?.1 hr
    have hl := (List.getElem?_eq_some_iff.1 hi).1
    have hlen := hst.len
    obtain ⟨p, hp⟩ := at_some z.2 i (by omega)
    have h1 := (hst.all i p r hp hi).1
    have h2 := KL_le rs n
    omega
  exact ⟨by show (clsL rs n).length ≤ _; rw [clsL_len]; omega, key false x hx, key true y hy⟩
theorem auB_made (rs : List Rul) {n : Nat} (hn : n ≤ 8) (k : Int) : AuB (auL (fontF n (madeR rs)) k) := by
  unfold auL
  rcases hbl : buildL (fontF n (madeR rs)) k with ⟨_ | a, er⟩
  · exact ⟨by show 0 ≤ _; omega, (fun r hr => by cases hr), (fun r hr => by cases hr)⟩
  · obtain ⟨lk, h1, _, _, _, h2, _⟩ := buildL_some hbl
    rw [fontF_lk] at h1
    split at h1
    · injection h1 with h1
      subst h1
      refine auB_of h2 ?_
      have := fontF_len n (madeR rs)
      omega
    · cases h1
theorem made_lk (rs : List Rul) (n : Nat) (k : Int) : ∀ lk, lkAt (fontF n (madeR rs)) k = some lk → lk.rules = madeR rs := fun lk h => by
  rw [fontF_lk] at h
  split at h
  · injection h with h; subst h; rfl
  · cases h

set_option maxRecDepth 100000 in
set_option maxHeartbeats 2000000 in
theorem automatonBuilds_walk (g0 : Int) (A0 : Option Addr) (n0 c0 : Nat) (rs : List Rul) (lk : Int) (w : World) (h : RdR w (lo w.heap.size) A0 n0 rs) (hh : Hd n0 c0) (hT : Tab w) : Calls Tryd.prog 8 #[.int .i64 g0, .slice A0 n0 c0, .int .i64 lk] w fun e w' => e = .returned (.bool true) ∧ Below w.heap.size w w' := by
  have hTp := hT.pos
  have b0 : Below w.heap.size w w := Below.refl _ _
  have HSH := Lib.hid (shown_c w (hT.call b0 hTp))
  have HTT := Lib.hid fun (W : World) (bW : Below w.heap.size w W) => hT.call bW hTp
  have HR := Lib.hid fun (W : World) (bW : Below w.heap.size w W) => h.call bW
  clear h hT
  go_enter Tryd.func8, Tryd.ntmps8
  go_wp2_with fail
  refine HSH.out.mono ?_
  rintro e w1 ⟨rfl, bn⟩
  have b1 := below_call b0 bn
  have HM := Lib.hid (made_c g0 A0 n0 c0 rs w1 (HR.out w1 b1) hh)
  clear HSH b0 bn
  go_wp2_with fail
  refine HM.out.mono ?_
  rintro e w2 ⟨f, rfl, hF, bn⟩
  have b2 := below_call b1 bn
  obtain ⟨gn, hgn⟩ : ∃ n : Nat, glyN g0 = n := ⟨_, rfl⟩
  have hgn8 : gn ≤ 8 := hgn ▸ glyN_le g0
  have hgn0 : 0 < gn := hgn ▸ glyN_pos g0
  rw [hgn] at hF
  clear hgn
  have b23 : Below w2.heap.size w2 (w2.alloc (.cells #[.int .i64 f.u0, .slice f.ga f.gn f.gc, .slice f.ca f.cn f.cc, .slice f.la f.ln f.lc, .slice f.a4 f.n4 f.c4, .slice f.a5 f.n5 f.c5, .slice f.a6 f.n6 f.c6, .slice f.a7 f.n7 f.c7, .slice f.a8 f.n8 f.c8] 33)) := (Below.refl _ _).alloc (Nat.le_refl _) _
  have hF2 : IsF w2 (lo w2.heap.size) f (fontF gn (madeR rs)) := hF.mono (fun _ hb => hb.2) (Kept.refl _ _)
  have hF3 := hF2.call b23
  have kf3 := Bk.new w2 33 #[.int .i64 f.u0, .slice f.ga f.gn f.gc, .slice f.ca f.cn f.cc, .slice f.la f.ln f.lc, .slice f.a4 f.n4 f.c4, .slice f.a5 f.n5 f.c5, .slice f.a6 f.n6 f.c6, .slice f.a7 f.n7 f.c7, .slice f.a8 f.n8 f.c8]
  have b3 := below_call b2 b23
  obtain ⟨a, ha, hbl⟩ := made_build rs hgn0 hgn8
  have hbl2 : buildL (fontF gn (madeR rs)) 0 = (some a, 0) := hbl
  have HB := Lib.hid (build_c f (fontF gn (madeR rs)) 0 _ hF3 (fun lk h _ => by rw [fontF_lk, if_pos rfl] at h; injection h with h; subst h; exact made_sm rs))
  have HBL := Lib.hid hbl2; have HAU := Lib.hid ha
  unfold FV.cells at HB
  clear HM b1 b2 b23 bn hF hF2 hbl hbl2 ha
  go_wp2_with fail
  refine HB.out.mono ?_
  rintro e w4 ⟨bn, hm⟩
  rw [HBL.out] at hm
  obtain ⟨v, rfl, hA4⟩ := hm
  have b4 := below_call b3 bn
  have hF4 := hF3.call bn
  have kf4 := kf3.below bn kf3.lt
  clear HB b3 hF3 kf3 bn
  unfold AV.cells at *
  have hs4 : ∀ k lk, lkAt (fontF gn (madeR rs)) k = some lk → lk.rules.length ≤ 64 → SmB lk.rules := fun k lk h _ => by rw [made_lk rs gn k lk h]; exact made_sm rs
  have hx4 : ∀ k lk, lkAt (fontF gn (madeR rs)) k = some lk → lk.rules.length ≤ 64 → ∃ a, autoL lk.rules (fontF gn (madeR rs)).gly.length = some a := fun k lk h _ => by rw [made_lk rs gn k lk h]; exact made_auto rs _
  have HSX := Lib.hid (And.intro hs4 hx4)
  have hau : auL (fontF gn (madeR rs)) 0 = a := by unfold auL; rw [HBL.out]
  have hab := auB_made rs hgn8 0
  have habk := auB_made rs hgn8 lk
  rw [hau] at hab
  have her : erL (fontF gn (madeR rs)) 0 = 0 := by unfold erL; rw [HBL.out]
  have HAB := Lib.hid (And.intro hab (And.intro habk (And.intro hau her)))
  clear hs4 hx4 hab habk hau her
  have bl := below_lit w4 w4 (Below.refl _ _) (.cells #[.slice v.ca v.cn v.cc, .slice v.fa v.fn v.fc, .slice v.ba v.bn v.bc, .slice v.ea v.en v.ec, .slice v.ga v.gn v.gc] 38)
  have kA_v := Bk.new w4 38 #[.slice v.ca v.cn v.cc, .slice v.fa v.fn v.fc, .slice v.ba v.bn v.bc, .slice v.ea v.en v.ec, .slice v.ga v.gn v.gc]
  have kf4 := kf4.below bl kf4.lt
  have hF4 := hF4.call bl
  have b4 := below_call b4 bl
  have hA4 := hA4.call bl
  have c0 := box_cells kf4 0 rfl
  have c1 := box_cells kf4 1 rfl
  have c2 := box_cells kf4 2 rfl
  have c3 := box_cells kf4 3 rfl
  have c4 := box_cells kf4 4 rfl
  have c5 := box_cells kf4 5 rfl
  have c6 := box_cells kf4 6 rfl
  have c7 := box_cells kf4 7 rfl
  have c8 := box_cells kf4 8 rfl
  have HB := Lib.hid (dbuild_c f (fontF gn (madeR rs)) 0 _ hF4 (HSX.out.1 0) (HSX.out.2 0))
  unfold FV.cells at HB
  go_wp2_with fail
  refine HB.out.mono ?_
  rintro e w6 hm
  obtain ⟨v6, rfl, hA_v6, bn⟩ := hm.gives
  clear hm HB bl c0 c1 c2 c3 c4 c5 c6 c7 c8
  have kf4 := kf4.below bn kf4.lt
  have hF4 := hF4.call bn
  have b4 := below_call b4 bn
  have kA_v := kA_v.below bn kA_v.lt
  have hA4 := hA4.call bn
  clear bn
  rw [HAB.out.2.2.1] at hA_v6
  rw [HAB.out.2.2.2]
  unfold AV.cells
  have bl := below_lit w6 w6 (Below.refl _ _) (.cells #[.slice v6.ca v6.cn v6.cc, .slice v6.fa v6.fn v6.fc, .slice v6.ba v6.bn v6.bc, .slice v6.ea v6.en v6.ec, .slice v6.ga v6.gn v6.gc] 38)
  have kA_v6 := Bk.new w6 38 #[.slice v6.ca v6.cn v6.cc, .slice v6.fa v6.fn v6.fc, .slice v6.ba v6.bn v6.bc, .slice v6.ea v6.en v6.ec, .slice v6.ga v6.gn v6.gc]
  have kf4 := kf4.below bl kf4.lt
  have hF4 := hF4.call bl
  have b4 := below_call b4 bl
  have hA_v6 := hA_v6.call bl
  have kA_v := kA_v.below bl kA_v.lt
  have hA4 := hA4.call bl
  have c0 := box_cells kf4 0 rfl
  have c1 := box_cells kf4 1 rfl
  have c2 := box_cells kf4 2 rfl
  have c3 := box_cells kf4 3 rfl
  have c4 := box_cells kf4 4 rfl
  have c5 := box_cells kf4 5 rfl
  have c6 := box_cells kf4 6 rfl
  have c7 := box_cells kf4 7 rfl
  have c8 := box_cells kf4 8 rfl
  have HB := Lib.hid (build_c f (fontF gn (madeR rs)) lk _ hF4 (HSX.out.1 lk))
  unfold FV.cells at HB
  go_wp2_with fail
  refine HB.out.mono ?_
  rintro e w8 hm
  obtain ⟨v8, rfl, hA_v8, bn⟩ := hm.gives
  clear hm HB bl c0 c1 c2 c3 c4 c5 c6 c7 c8
  have kf4 := kf4.below bn kf4.lt
  have hF4 := hF4.call bn
  have b4 := below_call b4 bn
  have kA_v := kA_v.below bn kA_v.lt
  have hA4 := hA4.call bn
  have kA_v6 := kA_v6.below bn kA_v6.lt
  have hA_v6 := hA_v6.call bn
  clear bn
  unfold AV.cells
  have bl := below_lit w8 w8 (Below.refl _ _) (.cells #[.slice v8.ca v8.cn v8.cc, .slice v8.fa v8.fn v8.fc, .slice v8.ba v8.bn v8.bc, .slice v8.ea v8.en v8.ec, .slice v8.ga v8.gn v8.gc] 38)
  have kA_v8 := Bk.new w8 38 #[.slice v8.ca v8.cn v8.cc, .slice v8.fa v8.fn v8.fc, .slice v8.ba v8.bn v8.bc, .slice v8.ea v8.en v8.ec, .slice v8.ga v8.gn v8.gc]
  have kf4 := kf4.below bl kf4.lt
  have hF4 := hF4.call bl
  have b4 := below_call b4 bl
  have hA_v8 := hA_v8.call bl
  have kA_v := kA_v.below bl kA_v.lt
  have hA4 := hA4.call bl
  have kA_v6 := kA_v6.below bl kA_v6.lt
  have hA_v6 := hA_v6.call bl
  have c0 := box_cells kf4 0 rfl
  have c1 := box_cells kf4 1 rfl
  have c2 := box_cells kf4 2 rfl
  have c3 := box_cells kf4 3 rfl
  have c4 := box_cells kf4 4 rfl
  have c5 := box_cells kf4 5 rfl
  have c6 := box_cells kf4 6 rfl
  have c7 := box_cells kf4 7 rfl
  have c8 := box_cells kf4 8 rfl
  have HB := Lib.hid (dbuild_c f (fontF gn (madeR rs)) lk _ hF4 (HSX.out.1 lk) (HSX.out.2 lk))
  unfold FV.cells at HB
  go_wp2_with fail
  refine HB.out.mono ?_
  rintro e wa hm
  obtain ⟨va, rfl, hA_va, bn⟩ := hm.gives
  clear hm HB bl c0 c1 c2 c3 c4 c5 c6 c7 c8
  have kf4 := kf4.below bn kf4.lt
  have hF4 := hF4.call bn
  have b4 := below_call b4 bn
  have kA_v := kA_v.below bn kA_v.lt
  have hA4 := hA4.call bn
  have kA_v6 := kA_v6.below bn kA_v6.lt
  have hA_v6 := hA_v6.call bn
  have kA_v8 := kA_v8.below bn kA_v8.lt
  have hA_v8 := hA_v8.call bn
  clear bn
  unfold AV.cells
  have bl := below_lit wa wa (Below.refl _ _) (.cells #[.slice va.ca va.cn va.cc, .slice va.fa va.fn va.fc, .slice va.ba va.bn va.bc, .slice va.ea va.en va.ec, .slice va.ga va.gn va.gc] 38)
  have kA_va := Bk.new wa 38 #[.slice va.ca va.cn va.cc, .slice va.fa va.fn va.fc, .slice va.ba va.bn va.bc, .slice va.ea va.en va.ec, .slice va.ga va.gn va.gc]
  have b4 := below_call b4 bl
  have hA_va := hA_va.call bl
  have kA_v := kA_v.below bl kA_v.lt
  have hA4 := hA4.call bl
  have kA_v6 := kA_v6.below bl kA_v6.lt
  have hA_v6 := hA_v6.call bl
  have kA_v8 := kA_v8.below bl kA_v8.lt
  have hA_v8 := hA_v8.call bl
  clear bl
  obtain ⟨er, her⟩ : ∃ er, erL (fontF gn (madeR rs)) lk = er := ⟨_, rfl⟩
  rw [her]
  clear her
  have p0 := box_cells kA_v 0 rfl
  have p1 := box_cells kA_v 1 rfl
  have p2 := box_cells kA_v 2 rfl
  have p3 := box_cells kA_v 3 rfl
  have p4 := box_cells kA_v 4 rfl
  have q0 := box_cells kA_v6 0 rfl
  have q1 := box_cells kA_v6 1 rfl
  have q2 := box_cells kA_v6 2 rfl
  have q3 := box_cells kA_v6 3 rfl
  have q4 := box_cells kA_v6 4 rfl
  have HC := Lib.hid (sameAuto_c v v6 a _ hA4 hA_v6 HAB.out.1)
  unfold AV.cells at HC
  go_wp2_with fail
  refine HC.out.mono ?_
  rintro e wb ⟨rfl, bn⟩
  clear HC p0 q0 p1 q1 p2 q2 p3 q3 p4 q4
  have kA_v8 := kA_v8.below bn kA_v8.lt
  have kA_va := kA_va.below bn kA_va.lt
  have hA_v8 := hA_v8.call bn
  have hA_va := hA_va.call bn
  have b4 := below_call b4 bn
  clear bn
  have p0 := box_cells kA_v8 0 rfl
  have p1 := box_cells kA_v8 1 rfl
  have p2 := box_cells kA_v8 2 rfl
  have p3 := box_cells kA_v8 3 rfl
  have p4 := box_cells kA_v8 4 rfl
  have q0 := box_cells kA_va 0 rfl
  have q1 := box_cells kA_va 1 rfl
  have q2 := box_cells kA_va 2 rfl
  have q3 := box_cells kA_va 3 rfl
  have q4 := box_cells kA_va 4 rfl
  have HC := Lib.hid (sameAuto_c v8 va _ _ hA_v8 hA_va HAB.out.2.1)
  unfold AV.cells at HC
  go_wp2_with fail
  refine HC.out.mono ?_
  rintro e wc ⟨rfl, bn⟩
  clear HC p0 q0 p1 q1 p2 q2 p3 q3 p4 q4
  have b4 := below_call b4 bn
  go_wp2
  go_ret
  exact ⟨rfl, b4⟩


end Go.Proofs.YtgcmedkaadagmaaDoor
