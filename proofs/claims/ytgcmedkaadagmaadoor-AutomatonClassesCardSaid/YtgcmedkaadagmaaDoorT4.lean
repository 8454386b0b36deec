/- Walks: AutomatonClasses. -/
import Derived.Test.YtgcmedkaadagmaaDoorTw
import Derived.Test.YtgcmedkaadagmaaDoorQ7
namespace Go.Proofs.YtgcmedkaadagmaaDoor
open Go.RowKit Go.Shelf Go.Maps

theorem idx_of2 (t : Int) {n : Nat} (hn : 0 < n) : ∃ m k : Nat, bits .and .i64 t 65535 = (m : Int) ∧ (m : Int).tmod (n : Int) = (k : Int) ∧ k < n := by
  refine ⟨(t % 65536).toNat, (t % 65536).toNat % n, by rw [and65535]; omega, ?_, Nat.mod_lt _ hn⟩
  rw [Int.tmod_eq_emod_of_nonneg (by omega)]
  omega
/-- Are p and q in the same sets? -/
def sameB (l : List (List Int)) (p q : Int) : Bool := l.all fun s => decide (p ∈ s) == decide (q ∈ s)
theorem sameB_app (l m : List (List Int)) (p q : Int) : sameB (l ++ m) p q = (sameB l p q && sameB m p q) := by unfold sameB; rw [List.all_append]
theorem sameB_step {l : List (List Int)} {k : Nat} {s : List Int} (h : l[k]? = some s) (p q : Int) : sameB (l.take (k + 1)) p q = (sameB (l.take k) p q && (decide (p ∈ s) == decide (q ∈ s))) := by
  rw [List.take_add_one, h, sameB_app]
  simp [sameB]
theorem sameB_rule {rs : List Rul} {i : Nat} {r : Rul} (h : rs[i]? = some r) (p q : Int) : sameB (setsL (rs.take (i + 1))) p q = (sameB (setsL (rs.take i)) p q && sameB (r.back ++ (r.inn ++ r.ahead)) p q) := by
  rw [setsL_snoc h, sameB_app]
theorem sameB_cls {rs : List Rul} {n p q : Nat} (hp : p < n) (hq : q < n) : sameB (setsL rs) p q = true ↔ (clsL rs n)[p]? = (clsL rs n)[q]? := by
  rw [cls_same rs hp hq]
  unfold sameB
  rw [List.all_eq_true]
  constructor
  · intro h s hs
    have := h s hs
    rw [contains_dec, contains_dec]; simpa using this
  · intro h s hs
    have := h s hs
    rw [contains_dec, contains_dec] at this; simpa using this
theorem sameB_all {rs : List Rul} {p q : Int} (h : sameB (setsL rs) p q = true) : ∀ s ∈ setsL rs, s.contains p = s.contains q := fun s hs => by
  have := List.all_eq_true.1 h s hs
  rw [contains_dec, contains_dec]; simpa using this
theorem swap_succ (n : Nat) {l : List Int} {i : Nat} {x : Int} (h : l[i]? = some x) (p q : Int) : (modG n (l.take (i + 1))).map (swapG p q) = (modG n (l.take i)).map (swapG p q) ++ [swapG p q (x % 65536 % (n : Int))] := by rw [modG_succ n h]; simp
theorem swapG_ok {n : Nat} {p q : Int} (hq : 0 ≤ q ∧ q < (n : Int)) {l : List Int} (h : ∀ g ∈ l, 0 ≤ g ∧ g < (n : Int)) : ∀ g ∈ l.map (swapG p q), 0 ≤ g ∧ g < (n : Int) := fun g hg => by
  obtain ⟨x, hx, rfl⟩ := List.mem_map.1 hg
  unfold swapG
  split
  · exact hq
  · exact h x hx
theorem not_bool {b c : Bool} (h : b = false) (k : c = true) : b ≠ c := by rw [h, k]; decide

set_option maxRecDepth 100000 in
set_option maxHeartbeats 4000000 in
theorem automatonClasses_walk (g0 : Int) (A0 : Option Addr) (n0 c0 : Nat) (rs : List Rul) (g9 : Int) (B0 : Option Addr) (e0 d0 : Nat) (r9 : List Rul) (t0 t1 t2 t3 : Int) (B1 : Option Addr) (e1 d1 : Nat) (l9 : List Int) (A1 : Option Addr) (n1 c1 : Nat) (l1 : List Int) (w : World) (h : RdR w (lo w.heap.size) A0 n0 rs) (hh : Hd n0 c0) (hg9 : -9223372036854775808 ≤ g9 ∧ g9 ≤ 9223372036854775807) (_ : RdR w (lo w.heap.size) B0 e0 r9) (_ : Hd e0 d0) (_ : Rd w (lo w.heap.size) B1 e1 l9) (_ : Hd e1 d1) (h1 : Rd w (lo w.heap.size) A1 n1 l1) (g1 : Hd n1 c1) (hT : Tab w) : Calls Tryd.prog 5 #[.int .i64 g0, .slice A0 n0 c0, .agg #[.int .i64 g9, .slice B0 e0 d0, .int .i64 t0, .int .i64 t1, .int .i64 t2, .int .i64 t3, .slice B1 e1 d1, .slice A1 n1 c1]] w fun e w' => e = .returned (.bool true) ∧ Below w.heap.size w w' := by
  have hTp := hT.pos
  have b0 : Below w.heap.size w (w.alloc (.cells #[.int .i64 g9, .slice B0 e0 d0, .int .i64 t0, .int .i64 t1, .int .i64 t2, .int .i64 t3, .slice B1 e1 d1, .slice A1 n1 c1] 48)) := below_lit _ _ (Below.refl _ _) _
  have kx0 := Bk.new w 48 #[.int .i64 g9, .slice B0 e0 d0, .int .i64 t0, .int .i64 t1, .int .i64 t2, .int .i64 t3, .slice B1 e1 d1, .slice A1 n1 c1]
  have HSH := Lib.hid (shown_c (w.alloc (.cells #[.int .i64 g9, .slice B0 e0 d0, .int .i64 t0, .int .i64 t1, .int .i64 t2, .int .i64 t3, .slice B1 e1 d1, .slice A1 n1 c1] 48)) (hT.call b0 hTp))
  have HTT := Lib.hid fun (W : World) (bW : Below w.heap.size w W) => hT.call bW hTp
  have HR := Lib.hid fun (W : World) (bW : Below w.heap.size w W) => h.call bW
  have HR1 := Lib.hid fun (W : World) (bW : Below w.heap.size w W) => h1.call bW
  have L1 := Lib.hid h1.len
  have g1a := g1.1
  have g1b := g1.2
  clear h hT h1 g1
  go_enter Tryd.func5, Tryd.ntmps5
  go_wp2_with fail
  refine HSH.out.mono ?_
  rintro e w1 ⟨rfl, bn⟩
  have b1 := below_call b0 bn
  have kx1 := kx0.below bn kx0.lt
  have HM := Lib.hid (made_c g0 A0 n0 c0 rs w1 (HR.out w1 b1) hh)
  clear HSH b0 bn kx0
  go_wp2_with fail
  refine HM.out.mono ?_
  rintro e w2 ⟨f, rfl, hF, bn⟩
  have b2 := below_call b1 bn
  have kx2 := kx1.below bn kx1.lt
  obtain ⟨gn, hgn⟩ : ∃ n : Nat, glyN g0 = n := ⟨_, rfl⟩
  have hgn8 : gn ≤ 8 := hgn ▸ glyN_le g0
  have hgn0 : 0 < gn := hgn ▸ glyN_pos g0
  rw [hgn] at hF
  clear hgn
  have b23 : Below w2.heap.size w2 (w2.alloc (.cells #[.int .i64 f.u0, .slice f.ga f.gn f.gc, .slice f.ca f.cn f.cc, .slice f.la f.ln f.lc, .slice f.a4 f.n4 f.c4, .slice f.a5 f.n5 f.c5, .slice f.a6 f.n6 f.c6, .slice f.a7 f.n7 f.c7, .slice f.a8 f.n8 f.c8] 33)) := (Below.refl _ _).alloc (Nat.le_refl _) _
  have hF2 : IsF w2 (lo w2.heap.size) f (fontF gn (madeR rs)) := hF.mono (fun _ hb => hb.2) (Kept.refl _ _)
  have hF3 := hF2.call b23
  have kf3 := Bk.new w2 33 #[.int .i64 f.u0, .slice f.ga f.gn f.gc, .slice f.ca f.cn f.cc, .slice f.la f.ln f.lc, .slice f.a4 f.n4 f.c4, .slice f.a5 f.n5 f.c5, .slice f.a6 f.n6 f.c6, .slice f.a7 f.n7 f.c7, .slice f.a8 f.n8 f.c8]
  have b3 := below_call b2 b23
  have kx3 := kx2.below b23 kx2.lt
  obtain ⟨a, ha, hbl⟩ := made_build rs hgn0 hgn8
  have hbl2 : buildL (fontF gn (madeR rs)) 0 = (some a, 0) := hbl
  have HB := Lib.hid (build_c f (fontF gn (madeR rs)) 0 _ hF3 (fun lk h _ => by rw [fontF_lk, if_pos rfl] at h; injection h with h; subst h; exact made_sm rs))
  have HBL := Lib.hid hbl2; have HAU := Lib.hid ha
  unfold FV.cells at HB
  clear HM b1 b2 b23 bn hF hF2 hbl hbl2 ha kx1 kx2
  go_wp2_with fail
  refine HB.out.mono ?_
  rintro e w4 ⟨bn, hm⟩
  rw [HBL.out] at hm
  obtain ⟨v, rfl, hA4⟩ := hm
  have b4 := below_call b3 bn
  have hF4 := hF3.call bn
  have kf4 := kf3.below bn kf3.lt
  have kx4 := kx3.below bn kx3.lt
  clear HB b3 hF3 kf3 bn kx3
  have KX := Lib.hid kx4; have KF := Lib.hid kf4; have B4 := Lib.hid b4; have HF := Lib.hid hF4; have HA := Lib.hid hA4
  clear kx4 kf4 b4 hF4 hA4
  unfold AV.cells at *
  go_upto_region 4 with fail
  have b45 : Below w4.heap.size w4 (w4.alloc (.cells #[.slice v.ca v.cn v.cc, .slice v.fa v.fn v.fc, .slice v.ba v.bn v.bc, .slice v.ea v.en v.ec, .slice v.ga v.gn v.gc] 38)) := (Below.refl _ _).alloc (Nat.le_refl _) _
  have hAC := auto_cls HAU.out
  have hcn : v.cn = gn := by have h1 := HA.out.1.c.len; change a.cls.length = v.cn at h1; rw [← h1, hAC, clsL_len]
  have hgl : f.gn = gn := by have h1 := HF.out.1.len; rw [← h1]; exact fontF_len gn (madeR rs)
  obtain ⟨bl, ol, hla, hbl, hc⟩ := HF.out.2.1.pos (show 0 < f.ln by have := HF.out.2.1.len; have h2 : (fontF gn (madeR rs)).lks.length = 1 := rfl; omega)
  obtain ⟨cs, hE, hcc⟩ := hc 0 ⟨4, false, madeR rs⟩ rfl
  obtain ⟨qa, qn, qc, rfl, hRR, hqd⟩ := hE
  have z2 := hcc 2 _ rfl
  simp only [Nat.zero_mul, Nat.add_zero] at z2
  have hln : f.ln = 1 := HF.out.2.1.len.symm
  have kA : Bk (w4.alloc (.cells #[.slice v.ca v.cn v.cc, .slice v.fa v.fn v.fc, .slice v.ba v.bn v.bc, .slice v.ea v.en v.ec, .slice v.ga v.gn v.gc] 38)) w4.heap.size 38 #[.slice v.ca gn v.cc, .slice v.fa v.fn v.fc, .slice v.ba v.bn v.bc, .slice v.ea v.en v.ec, .slice v.ga v.gn v.gc] := by have := Bk.new w4 38 #[.slice v.ca v.cn v.cc, .slice v.fa v.fn v.fc, .slice v.ba v.bn v.bc, .slice v.ea v.en v.ec, .slice v.ga v.gn v.gc]; rw [hcn] at this; rw [hcn]; exact this
  have kF : Bk (w4.alloc (.cells #[.slice v.ca v.cn v.cc, .slice v.fa v.fn v.fc, .slice v.ba v.bn v.bc, .slice v.ea v.en v.ec, .slice v.ga v.gn v.gc] 38)) w2.heap.size 33 #[.int .i64 f.u0, .slice f.ga gn f.gc, .slice f.ca f.cn f.cc, .slice (some ⟨bl, ol, none⟩) 1 f.lc, .slice f.a4 f.n4 f.c4, .slice f.a5 f.n5 f.c5, .slice f.a6 f.n6 f.c6, .slice f.a7 f.n7 f.c7, .slice f.a8 f.n8 f.c8] := by have := KF.out.below b45 KF.out.lt; rw [hgl, hla, hln] at this; exact this
  have kX := KX.out.below b45 KX.out.lt
  have hF5 := HF.out.call b45
  have hA5 := HA.out.call b45
  have hR5 : RdR (w4.alloc (.cells #[.slice v.ca v.cn v.cc, .slice v.fa v.fn v.fc, .slice v.ba v.bn v.bc, .slice v.ea v.en v.ec, .slice v.ga v.gn v.gc] 38)) (lo (w4.alloc (.cells #[.slice v.ca v.cn v.cc, .slice v.fa v.fn v.fc, .slice v.ba v.bn v.bc, .slice v.ea v.en v.ec, .slice v.ga v.gn v.gc] 38)).heap.size) qa qn (madeR rs) := RdR.call hRR b45
  have z25 := cell_call z2 b45
  have B5 := Lib.hid (below_call B4.out b45)
  obtain ⟨w5, hw5⟩ : ∃ w5, w4.alloc (.cells #[.slice v.ca v.cn v.cc, .slice v.fa v.fn v.fc, .slice v.ba v.bn v.bc, .slice v.ea v.en v.ec, .slice v.ga v.gn v.gc] 38) = w5 := ⟨_, rfl⟩
  obtain ⟨gA, hgA⟩ : ∃ g, w4.heap.size = g := ⟨_, rfl⟩
  obtain ⟨gF, hgF⟩ : ∃ g, w2.heap.size = g := ⟨_, rfl⟩
  rw [hw5] at kA kF kX hF5 hA5 hR5 z25 B5
  rw [hgA] at kA
  rw [hgF] at kF
  try rw [hw5]
  try rw [hgA]
  try rw [hgF]
  clear hw5 hgA hgF b45 hc hcc z2 hRR hbl hln hla HF HA KF KX B4
  have KA := Lib.hid kA; have KF := Lib.hid kF; have KX := Lib.hid kX; have HFF := Lib.hid hF5; have HAA := Lib.hid hA5; have HRR := Lib.hid hR5; have Z2 := Lib.hid z25
  have LQ := Lib.hid hR5.len
  have qn6 : qn ≤ 6 := by have := hR5.len; have := made_len rs; omega
  have hq1 := hqd.1
  have hq2 := hqd.2
  clear hqd hF5 hA5 hR5 z25
  have a0 := box_cells kA 0 rfl
  have f1 := box_cells kF 1 rfl
  have x0 := box_cells kX 0 rfl
  clear kA kF kX
  obtain ⟨m1, p, e1, e2, hp⟩ := idx_of2 g9 hgn0
  obtain ⟨m2, q, e3, e4, hq⟩ := idx_of2 (g9 / 16) hgn0
  have hgz : ¬ (gn = 0) := by omega
  have esh : IntKind.i64.wrap (g9 / 16) = g9 / 16 := by rw [IntKind.wrap_i64]; omega
  go_upto_region 10 with fail
  clear e1 e2 e3 e4 a0 f1 x0 esh hcn hgl
  go_loopw [13, 14] (fun sv iv wr => ∃ i : Nat, i ≤ qn ∧ iv = .int .i64 i ∧ sv = .bool (sameB (setsL ((madeR rs).take i)) p q) ∧ Below w5.heap.size w5 wr) (fun _ iv _ => qn - (intOf iv).toNat)
  case atStart => exact ⟨0, by omega, rfl, rfl, Below.refl _ _⟩
  case round =>
    obtain ⟨i, hi, rfl, rfl, bz⟩ := hrel
    have f3 := box_cells (KF.out.below bz KF.out.lt) 3 rfl
    have z2 := cell_call Z2.out bz
    by_cases hlt : i < qn
    · have inn : (i : Int) < (qn : Int) := by omega
      have iz : (0 : Int) ≤ (i : Int) := by omega
      obtain ⟨r, hr⟩ := at_some (madeR rs) i (by rw [LQ.out]; omega)
      obtain ⟨bq, oq, hqa, hbq, hc⟩ := HRR.out.pos (show 0 < qn by omega)
      obtain ⟨cs, ⟨P1, p1, q1, P2, p2, q2, P3, p3, q3, P4, p4, q4, P5, p5, q5, rfl, r1, r2, r3, _, _, _⟩, hcc⟩ := hc i r hr
      have y0 := (bz.cell (p := ⟨bq, oq + i * 6 + 0, none⟩) hbq).trans (hcc 0 _ rfl)
      have y1 := (bz.cell (p := ⟨bq, oq + i * 6 + 1, none⟩) hbq).trans (hcc 1 _ rfl)
      have y2 := (bz.cell (p := ⟨bq, oq + i * 6 + 2, none⟩) hbq).trans (hcc 2 _ rfl)
      have y3 := (bz.cell (p := ⟨bq, oq + i * 6 + 3, none⟩) hbq).trans (hcc 3 _ rfl)
      have y4 := (bz.cell (p := ⟨bq, oq + i * 6 + 4, none⟩) hbq).trans (hcc 4 _ rfl)
      have y5 := (bz.cell (p := ⟨bq, oq + i * 6 + 5, none⟩) hbq).trans (hcc 5 _ rfl)
      rw [Nat.add_zero] at y0
      obtain ⟨cs1, hrow1, hnl1, hnw1⟩ := RowOf.news r1 erow_len
      obtain ⟨cs2, hrow2, hnl2, hnw2⟩ := RowOf.news r2 erow_len
      obtain ⟨cs3, hrow3, hnl3, hnw3⟩ := RowOf.news r3 erow_len
      have HN1 := Lib.hid (And.intro hnl1 (And.intro hnw1 (hrow1.one_cells erow_one)))
      have HN2 := Lib.hid (And.intro hnl2 (And.intro hnw2 (hrow2.one_cells erow_one)))
      have HN3 := Lib.hid (And.intro hnl3 (And.intro hnw3 (hrow3.one_cells erow_one)))
      have HRW := Lib.hid (hrow1.app (hrow2.app hrow3))
      have hsm := flat_le (List.mem_of_getElem? hr)
      have hS100 := (made_sm rs).s
      have hlen : p1 + (p2 + p3) ≤ 100 := by
        have h1 := r1.len
        have h2 := r2.len
        have h3 := r3.len
        first | omega | (simp only [List.length_append] at hsm; omega)
      have HSL := Lib.hid fun (s : List Int) (hs : s ∈ r.back ++ (r.inn ++ r.ahead)) => (show s.length ≤ 1000000 from by
        have := (made_sm rs).l s (List.mem_flatMap.2 ⟨r, List.mem_of_getElem? hr, hs⟩)
        omega)
      have HSB := Lib.hid (sameB_rule hr p q)
      have HLS := Lib.hid (show (r.back ++ (r.inn ++ r.ahead)).length = p1 + (p2 + p3) by have h1 := r1.len; have h2 := r2.len; have h3 := r3.len; simp only [List.length_append]; omega)
      obtain ⟨sb, hsb⟩ : ∃ sb, sameB (setsL ((madeR rs).take i)) p q = sb := ⟨_, rfl⟩
      rw [hsb] at HSB ⊢
      obtain ⟨all, hall⟩ : ∃ all, r.back ++ (r.inn ++ r.ahead) = all := ⟨_, rfl⟩
      rw [hall] at HRW HSL HSB HLS
      subst hqa
      have HBZ := Lib.hid bz
      clear hc hcc hr r1 r2 r3 hrow1 hrow2 hrow3 hnl1 hnl2 hnl3 hnw1 hnw2 hnw3 hsm hS100 hsb hall bz
      have bR : Below wr.heap.size wr (wr.alloc (.cells #[.slice P1 p1 q1, .slice P2 p2 q2, .slice P3 p3 q3, .slice P4 p4 q4, .slice P5 p5 q5, .int .i64 r.x] 58)) := (Below.refl _ _).alloc (Nat.le_refl _) _
      have kR := Bk.new wr 58 #[.slice P1 p1 q1, .slice P2 p2 q2, .slice P3 p3 q3, .slice P4 p4 q4, .slice P5 p5 q5, .int .i64 r.x]
      have HX := Lib.hid (below_call HBZ.out bR)
      go_upto_region 13 with fail
      clear y0 y1 y2 y3 y4 y5 f3 z2
      obtain ⟨gR, hgR⟩ : ∃ g, wr.heap.size = g := ⟨_, rfl⟩
      obtain ⟨w1, hw1⟩ : ∃ w1, wr.alloc (.cells #[.slice P1 p1 q1, .slice P2 p2 q2, .slice P3 p3 q3, .slice P4 p4 q4, .slice P5 p5 q5, .int .i64 r.x] 58) = w1 := ⟨_, rfl⟩
      rw [hw1, hgR] at kR
      rw [hw1] at HX
      try rw [hw1]
      try rw [hgR]
      have x1 := box_cells kR 0 rfl
      have x2 := box_cells kR 1 rfl
      have x3 := box_cells kR 2 rfl
      clear hw1 hgR kR bR HBZ
      have HS := Lib.hid fun (W : World) (bW : Below w1.heap.size w1 W) => (show W.cell? ⟨gR, 0, none⟩ = some (.slice P1 p1 q1) ∧ W.cell? ⟨gR, 1, none⟩ = some (.slice P2 p2 q2) ∧ W.cell? ⟨gR, 2, none⟩ = some (.slice P3 p3 q3) from ⟨cell_call x1 bW, cell_call x2 bW, cell_call x3 bW⟩)
      have bb := Below.refl w1.heap.size w1
      refine wp_region_held_drew (S := fun w' => w'.cell? ⟨gR, 0, none⟩ = some (.slice P1 p1 q1) ∧ w'.cell? ⟨gR, 1, none⟩ = some (.slice P2 p2 q2) ∧ w'.cell? ⟨gR, 2, none⟩ = some (.slice P3 p3 q3)) (by kernel_rfl) ?_ (fun hHeld => ?_)
      · exact HS.out _ (below_drewN bb 1)
      replace bb := below_drewN bb 1
      change Below _ _ w1.drew at bb
      generalize hw0 : w1.drew = W0 at hHeld bb ⊢
      clear hw0
      refine wpAnyH_take (i := 1) (v := ?_) (by simp only [List.getElem?_toArray]; rfl) (by kernel_rfl) (by kernel_rfl) (by kernel_rfl) (by exact fun _ _ _ h => h) (Or.inl ⟨by rfl, ?_⟩) (by assumption) ?_
      rotate_left 1
      · intro w hSw; (try dsimp only at hSw); go_simp; try with_reducible rfl
      try conv => arg 8; simp only [Act.put, List.setIfInBounds_toArray, List.set_cons_zero, List.set_cons_succ]
      refine wpAnyH_take (i := 2) (v := ?_) (by simp only [List.getElem?_toArray]; rfl) (by kernel_rfl) (by kernel_rfl) (by kernel_rfl) (by exact fun _ _ _ h => h) (Or.inl ⟨by rfl, ?_⟩) (by assumption) ?_
      rotate_left 1
      · intro w hSw; (try dsimp only at hSw); go_simp; try with_reducible rfl
      try conv => arg 8; simp only [Act.put, List.setIfInBounds_toArray, List.set_cons_zero, List.set_cons_succ]
      refine wpAnyH_take (i := 4) (v := ?_) (by simp only [List.getElem?_toArray]; rfl) (by kernel_rfl) (by kernel_rfl) (by kernel_rfl) (by exact fun _ _ _ h => h) (Or.inl ⟨by rfl, ?_⟩) (by assumption) ?_
      rotate_left 1
      · intro w hSw; (try dsimp only at hSw); go_simp; try with_reducible rfl
      try conv => arg 8; simp only [Act.put, List.setIfInBounds_toArray, List.set_cons_zero, List.set_cons_succ]
      refine wpAnyH_take (i := 5) (v := ?_) (by simp only [List.getElem?_toArray]; rfl) (by kernel_rfl) (by kernel_rfl) (by kernel_rfl) (by exact fun _ _ _ h => h) (Or.inl ⟨by rfl, ?_⟩) (by assumption) ?_
      rotate_left 1
      · intro w hSw; (try dsimp only at hSw); go_simp; try with_reducible rfl
      try conv => arg 8; simp only [Act.put, List.setIfInBounds_toArray, List.set_cons_zero, List.set_cons_succ]
      refine wpAnyH_take (i := 7) (v := ?_) (by simp only [List.getElem?_toArray]; rfl) (by kernel_rfl) (by kernel_rfl) (by kernel_rfl) (by exact fun _ _ _ h => h) (Or.inl ⟨by rfl, ?_⟩) (by assumption) ?_
      rotate_left 1
      · intro w hSw; (try dsimp only at hSw); go_simp; try with_reducible rfl
      try conv => arg 8; simp only [Act.put, List.setIfInBounds_toArray, List.set_cons_zero, List.set_cons_succ]
      refine wpAnyH_take (i := 8) (v := ?_) (by simp only [List.getElem?_toArray]; rfl) (by kernel_rfl) (by kernel_rfl) (by kernel_rfl) (by exact fun _ _ _ h => h) (Or.inl ⟨by rfl, ?_⟩) (by assumption) ?_
      rotate_left 1
      · intro w hSw; (try dsimp only at hSw); go_simp; try with_reducible rfl
      try conv => arg 8; simp only [Act.put, List.setIfInBounds_toArray, List.set_cons_zero, List.set_cons_succ]
      refine wpAnyH_ready (rs := [0]) (by kernel_rfl) (by simp) ?_
      refine AllReadyH.cons (by simp only [List.getElem?_toArray]; rfl) (fun K hK => ?_) AllReadyH.nil
      refine wanted_pos (by kernel_rfl) ?_
      go_simp
      clear hHeld
      refine hK.out _ _ ?_ (fun hHeld => ?_)
      · exact HS.out _ (below_lit _ _ bb _)
      clear hK K
      try conv => arg 8; simp only [Act.put, List.setIfInBounds_toArray, List.set_cons_zero, List.set_cons_succ]
      have er := Ow.empty 23 1 W0 w1.heap.size bb.size
      replace bb := below_lit _ _ bb (.cells #[] 23)
      generalize W0.alloc (.cells #[] 23) = W1 at *
      refine wpAnyH_ready (rs := [3]) (by kernel_rfl) (by simp) ?_
      refine AllReadyH.cons (by simp only [List.getElem?_toArray]; rfl) (fun K hK => ?_) AllReadyH.nil
      clear hHeld
      refine appStep elt_row (by kernel_rfl) _ _ rfl W1 w1.heap.size _ _ _ [] _ _ _ cs1.flatten (by rfl) (by rfl) er HN1.out.1 (news_call HN1.out.2.1 (below_trans2 HX.out bb)) HN1.out.2.2 (by omega) bb.size ?_
      intro Y1 y1 W2 f1' hg2 hb hat
      rw [List.nil_append, Nat.zero_add] at f1'
      rw [Nat.zero_add]
      refine hK.out _ _ ?_ (fun hHeld => ?_)
      · exact HS.out _ (bb.trans hb)
      clear hK K
      try conv => arg 8; simp only [Act.put, List.setIfInBounds_toArray, List.set_cons_zero, List.set_cons_succ]
      replace bb := bb.trans hb
      clear er hg2 hb hat
      refine wpAnyH_ready (rs := [6]) (by kernel_rfl) (by simp) ?_
      refine AllReadyH.cons (by simp only [List.getElem?_toArray]; rfl) (fun K hK => ?_) AllReadyH.nil
      clear hHeld
      refine appStep elt_row (by kernel_rfl) _ _ rfl W2 w1.heap.size _ _ _ (cs1.flatten) _ _ _ cs2.flatten (by rfl) (by rfl) f1' HN2.out.1 (news_call HN2.out.2.1 (below_trans2 HX.out bb)) HN2.out.2.2 (by omega) bb.size ?_
      intro Y2 y2 W3 f2' hg2 hb hat
      refine hK.out _ _ ?_ (fun hHeld => ?_)
      · exact HS.out _ (bb.trans hb)
      clear hK K
      try conv => arg 8; simp only [Act.put, List.setIfInBounds_toArray, List.set_cons_zero, List.set_cons_succ]
      replace bb := bb.trans hb
      clear f1' hg2 hb hat
      refine wpAnyH_ready (rs := [9]) (by kernel_rfl) (by simp) ?_
      refine AllReadyH.cons (by simp only [List.getElem?_toArray]; rfl) (fun K hK => ?_) AllReadyH.nil
      clear hHeld
      refine appStep elt_row (by kernel_rfl) _ _ rfl W3 w1.heap.size _ _ _ (cs1.flatten ++ cs2.flatten) _ _ _ cs3.flatten (by rfl) (by rfl) f2' HN3.out.1 (news_call HN3.out.2.1 (below_trans2 HX.out bb)) HN3.out.2.2 (by omega) bb.size ?_
      intro Y3 y3 W4 f3' hg2 hb hat
      refine hK.out _ _ ?_ (fun hHeld => ?_)
      · exact HS.out _ (bb.trans hb)
      clear hK K
      try conv => arg 8; simp only [Act.put, List.setIfInBounds_toArray, List.set_cons_zero, List.set_cons_succ]
      replace bb := bb.trans hb
      clear f2' hg2 hb hat
      refine wpAnyH_take (i := 10) (v := ?_) (by simp only [List.getElem?_toArray]; rfl) (by kernel_rfl) (by kernel_rfl) (by kernel_rfl) (by exact fun _ _ _ h => h) (Or.inl ⟨by rfl, ?_⟩) (by assumption) ?_
      rotate_left 1
      · intro w hSw; (try dsimp only at hSw); go_simp; try with_reducible rfl
      try conv => arg 8; simp only [Act.put, List.setIfInBounds_toArray, List.set_cons_zero, List.set_cons_succ]
      refine wpAnyH_done (by kernel_rfl) ?_ _

      have hbw := below_trans2 HX.out bb
      have hrc := f3'.cap
      have fs2 : Ow 23 1 W4 w1.heap.size Y3 (p1 + p2 + p3) y3 (cs1 ++ (cs2 ++ cs3)).flatten := by rw [List.flatten_append, List.flatten_append, ← List.append_assoc]; exact f3'
      have hRV : RdV W4 (lo W4.heap.size) Y3 (p1 + p2 + p3) all := fs2.row (HRW.out.mono fun cs x h => h.mono (lo_mono hbw.size) (kept_below hbw)) (by omega)
      obtain ⟨N, hN⟩ : ∃ N, p1 + p2 + p3 = N := ⟨_, rfl⟩
      have hLA : all.length = N := by rw [HLS.out]; omega
      have hN100 : N ≤ 100 := by omega
      clear f3' fs2 bb HS HN1 HN2 HN3 HRW HX HLS hHeld x1 x2 x3
      have hRV2 := hRV
      rw [hN] at hRV2
      have HLA := Lib.hid hLA; have HRV := Lib.hid hRV2; have HBW := Lib.hid hbw; have hN' := hN
      have hrc1 := hrc.1
      have hrc2 := hrc.2
      clear hLA hRV hRV2 hbw hrc hlen
      go_upto_region 15 with fail
      try rw [hN]
      clear hN hN' hrc1
      go_loopw [13, 17] (fun sv kv wr => ∃ k : Nat, k ≤ N ∧ kv = .int .i64 k ∧ sv = .bool (sb && sameB (all.take k) p q) ∧ Below W4.heap.size W4 wr) (fun _ kv _ => N - (intOf kv).toNat)
      case atStart => exact ⟨0, by omega, rfl, by simp [sameB], Below.refl _ _⟩
      case round =>
        obtain ⟨k, hk, rfl, rfl, bz⟩ := hrel
        by_cases hkl : k < N
        · obtain ⟨s, hs⟩ := at_some all k (by rw [HLA.out]; omega)
          obtain ⟨b1, o1, hY, hb1, hc1⟩ := HRV.out.pos (show 0 < N by omega)
          obtain ⟨cs, ⟨Rk, rkn, rkc, rfl, hRk, _⟩, hcc1⟩ := hc1 k s hs
          have y1 := (bz.cell (p := ⟨b1, o1 + k * 1 + 0, none⟩) hb1).trans (hcc1 0 _ rfl)
          rw [Nat.mul_one, Nat.add_zero] at y1
          have hRkw := hRk.call bz
          have hrkn : rkn ≤ 1000000 := by have h1 := HSL.out s (List.mem_of_getElem? hs); have h2 := hRk.len; omega
          have HHP := Lib.hid fun (W : World) (bW : Below wr.heap.size wr W) => has_c Rk rkn rkc s p W (hRkw.call bW) hrkn
          have HHQ := Lib.hid fun (W : World) (bW : Below wr.heap.size wr W) => has_c Rk rkn rkc s q W (hRkw.call bW) hrkn
          have HST := Lib.hid (sameB_step hs p q)
          obtain ⟨d1, hd1⟩ : ∃ d, decide ((p : Int) ∈ s) = d := ⟨_, rfl⟩
          obtain ⟨d2, hd2⟩ : ∃ d, decide ((q : Int) ∈ s) = d := ⟨_, rfl⟩
          rw [hd1] at HHP HST
          rw [hd2] at HHQ HST
          obtain ⟨sk, hsk⟩ : ∃ b, sameB (all.take k) p q = b := ⟨_, rfl⟩
          rw [hsk] at HST
          have kz : (0 : Int) ≤ (k : Int) := by omega
          have kn : (k : Int) < (N : Int) := by omega
          subst hY
          clear hs hc1 hcc1 hRk hRkw hd1 hd2
          go_upto_region 17 with fail
          rw [hsk]
          clear hsk
          cases hbk : (sb && sk) with
          | true =>
            have HEQ := Lib.hid (show sb = true ∧ sk = true by simpa using hbk)
            clear hbk
            have HS := Lib.hid fun (W : World) (bW : Below wr.heap.size wr W) => (show W.cell? ⟨b1, o1 + k, none⟩ = some (.slice Rk rkn rkc) from cell_call y1 bW)
            have bb := Below.refl wr.heap.size wr
            refine wp_region_held_drew (S := fun w' => w'.cell? ⟨b1, o1 + k, none⟩ = some (.slice Rk rkn rkc)) (by kernel_rfl) ?_ (fun hHeld => ?_)
            · exact HS.out _ (below_drewN bb 1)
            replace bb := below_drewN bb 1
            change Below _ _ wr.drew at bb
            generalize hw0 : wr.drew = W0 at hHeld bb ⊢
            clear hw0
            refine wpAnyH_take (i := 0) (v := ?_) (by simp only [List.getElem?_toArray]; rfl) (by kernel_rfl) (by kernel_rfl) (by kernel_rfl) (by exact fun _ _ _ h => h) (Or.inl ⟨by rfl, ?_⟩) (by assumption) ?_
            rotate_left 1
            · intro w hSw; (try dsimp only at hSw); go_simp; try with_reducible rfl
            try conv => arg 8; simp only [Act.put, List.setIfInBounds_toArray, List.set_cons_zero, List.set_cons_succ]
            refine wpAnyH_take (i := 1) (v := ?_) (by simp only [List.getElem?_toArray]; rfl) (by kernel_rfl) (by kernel_rfl) (by kernel_rfl) (by exact fun _ _ _ h => h) (Or.inl ⟨by rfl, ?_⟩) (by assumption) ?_
            rotate_left 1
            · intro w hSw; (try dsimp only at hSw); go_simp; try with_reducible rfl
            try conv => arg 8; simp only [Act.put, List.setIfInBounds_toArray, List.set_cons_zero, List.set_cons_succ]
            refine wpAnyH_take (i := 2) (v := ?_) (by simp only [List.getElem?_toArray]; rfl) (by kernel_rfl) (by kernel_rfl) (by kernel_rfl) (by exact fun _ _ _ h => h) (Or.inl ⟨by rfl, ?_⟩) (by assumption) ?_
            rotate_left 1
            · intro w hSw; (try dsimp only at hSw); go_simp; try with_reducible rfl
            try conv => arg 8; simp only [Act.put, List.setIfInBounds_toArray, List.set_cons_zero, List.set_cons_succ]
            refine wpAnyH_take (i := 3) (v := ?_) (by simp only [List.getElem?_toArray]; rfl) (by kernel_rfl) (by kernel_rfl) (by kernel_rfl) (by exact fun _ _ _ h => h) (Or.inl ⟨by rfl, ?_⟩) (by assumption) ?_
            rotate_left 1
            · intro w hSw; (try dsimp only at hSw); go_simp; try with_reducible rfl
            try conv => arg 8; simp only [Act.put, List.setIfInBounds_toArray, List.set_cons_zero, List.set_cons_succ]
            refine wpAnyH_take (i := 4) (v := ?_) (by simp only [List.getElem?_toArray]; rfl) (by kernel_rfl) (by kernel_rfl) (by kernel_rfl) (by exact fun _ _ _ h => h) (Or.inl ⟨by rfl, ?_⟩) (by assumption) ?_
            rotate_left 1
            · intro w hSw; (try dsimp only at hSw); go_simp; try with_reducible rfl
            try conv => arg 8; simp only [Act.put, List.setIfInBounds_toArray, List.set_cons_zero, List.set_cons_succ]
            refine wpAnyH_take (i := 5) (v := ?_) (by simp only [List.getElem?_toArray]; rfl) (by kernel_rfl) (by kernel_rfl) (by kernel_rfl) (by exact fun _ _ _ h => h) (Or.inl ⟨by rfl, ?_⟩) (by assumption) ?_
            rotate_left 1
            · intro w hSw; (try dsimp only at hSw); go_simp; try with_reducible rfl
            try conv => arg 8; simp only [Act.put, List.setIfInBounds_toArray, List.set_cons_zero, List.set_cons_succ]
            refine wpAnyH_take (i := 6) (v := ?_) (by simp only [List.getElem?_toArray]; rfl) (by kernel_rfl) (by kernel_rfl) (by kernel_rfl) (by exact fun _ _ _ h => h) (Or.inl ⟨by rfl, ?_⟩) (by assumption) ?_
            rotate_left 1
            · intro w hSw; (try dsimp only at hSw); go_simp; try with_reducible rfl
            try conv => arg 8; simp only [Act.put, List.setIfInBounds_toArray, List.set_cons_zero, List.set_cons_succ]
            refine wpAnyH_take (i := 8) (v := ?_) (by simp only [List.getElem?_toArray]; rfl) (by kernel_rfl) (by kernel_rfl) (by kernel_rfl) (by exact fun _ _ _ h => h) (Or.inl ⟨by rfl, ?_⟩) (by assumption) ?_
            rotate_left 1
            · intro w hSw; (try dsimp only at hSw); go_simp; try with_reducible rfl
            try conv => arg 8; simp only [Act.put, List.setIfInBounds_toArray, List.set_cons_zero, List.set_cons_succ]
            refine wpAnyH_take (i := 9) (v := ?_) (by simp only [List.getElem?_toArray]; rfl) (by kernel_rfl) (by kernel_rfl) (by kernel_rfl) (by exact fun _ _ _ h => h) (Or.inl ⟨by rfl, ?_⟩) (by assumption) ?_
            rotate_left 1
            · intro w hSw; (try dsimp only at hSw); go_simp; try with_reducible rfl
            try conv => arg 8; simp only [Act.put, List.setIfInBounds_toArray, List.set_cons_zero, List.set_cons_succ]
            refine wpAnyH_take (i := 10) (v := ?_) (by simp only [List.getElem?_toArray]; rfl) (by kernel_rfl) (by kernel_rfl) (by kernel_rfl) (by exact fun _ _ _ h => h) (Or.inl ⟨by rfl, ?_⟩) (by assumption) ?_
            rotate_left 1
            · intro w hSw; (try dsimp only at hSw); go_simp; try with_reducible rfl
            try conv => arg 8; simp only [Act.put, List.setIfInBounds_toArray, List.set_cons_zero, List.set_cons_succ]
            refine wpAnyH_take (i := 11) (v := ?_) (by simp only [List.getElem?_toArray]; rfl) (by kernel_rfl) (by kernel_rfl) (by kernel_rfl) (by exact fun _ _ _ h => h) (Or.inl ⟨by rfl, ?_⟩) (by assumption) ?_
            rotate_left 1
            · intro w hSw; (try dsimp only at hSw); go_simp; try with_reducible rfl
            try conv => arg 8; simp only [Act.put, List.setIfInBounds_toArray, List.set_cons_zero, List.set_cons_succ]
            refine wpAnyH_take (i := 12) (v := ?_) (by simp only [List.getElem?_toArray]; rfl) (by kernel_rfl) (by kernel_rfl) (by kernel_rfl) (by exact fun _ _ _ h => h) (Or.inl ⟨by rfl, ?_⟩) (by assumption) ?_
            rotate_left 1
            · intro w hSw; (try dsimp only at hSw); go_simp; try with_reducible rfl
            try conv => arg 8; simp only [Act.put, List.setIfInBounds_toArray, List.set_cons_zero, List.set_cons_succ]
            refine wpAnyH_ready (rs := [7]) (by kernel_rfl) (by simp) ?_
            refine AllReadyH.cons (by simp only [List.getElem?_toArray]; rfl) (fun K hK => ?_) AllReadyH.nil
            refine wanted_pos (by kernel_rfl) ?_
            go_simp
            clear hHeld
            go_at_call 21
            (with_reducible refine (HHP.out _ bb).mono ?_)
            rintro e V1 ⟨rfl, bn⟩
            go_wp2_with fail
            refine hK.out _ _ ?_ (fun hHeld => ?_)
            · exact HS.out _ (bb.trans (bn.mono bb.size))
            clear hK K
            try conv => arg 8; simp only [Act.put, List.setIfInBounds_toArray, List.set_cons_zero, List.set_cons_succ]
            replace bb := bb.trans (bn.mono bb.size)
            clear bn
            refine wpAnyH_ready (rs := [13]) (by kernel_rfl) (by simp) ?_
            refine AllReadyH.cons (by simp only [List.getElem?_toArray]; rfl) (fun K hK => ?_) AllReadyH.nil
            refine wanted_pos (by kernel_rfl) ?_
            go_simp
            clear hHeld
            go_at_call 21
            (with_reducible refine (HHQ.out _ bb).mono ?_)
            rintro e V2 ⟨rfl, bn⟩
            go_wp2_with fail
            refine hK.out _ _ ?_ (fun hHeld => ?_)
            · exact HS.out _ (bb.trans (bn.mono bb.size))
            clear hK K
            try conv => arg 8; simp only [Act.put, List.setIfInBounds_toArray, List.set_cons_zero, List.set_cons_succ]
            replace bb := bb.trans (bn.mono bb.size)
            clear bn
            refine wpAnyH_take (i := 14) (v := ?_) (by simp only [List.getElem?_toArray]; rfl) (by kernel_rfl) (by kernel_rfl) (by kernel_rfl) (by exact fun _ _ _ h => h) (Or.inl ⟨by rfl, ?_⟩) (by assumption) ?_
            rotate_left 1
            · intro w hSw; (try dsimp only at hSw); go_simp; try with_reducible rfl
            try conv => arg 8; simp only [Act.put, List.setIfInBounds_toArray, List.set_cons_zero, List.set_cons_succ]
            refine wpAnyH_take (i := 15) (v := ?_) (by simp only [List.getElem?_toArray]; rfl) (by kernel_rfl) (by kernel_rfl) (by kernel_rfl) (by exact fun _ _ _ h => h) (Or.inl ⟨by rfl, ?_⟩) (by assumption) ?_
            rotate_left 1
            · intro w hSw; (try dsimp only at hSw); go_simp; try with_reducible rfl
            try conv => arg 8; simp only [Act.put, List.setIfInBounds_toArray, List.set_cons_zero, List.set_cons_succ]
            refine wpAnyH_take (i := 16) (v := ?_) (by simp only [List.getElem?_toArray]; rfl) (by kernel_rfl) (by kernel_rfl) (by kernel_rfl) (by exact fun _ _ _ h => h) (Or.inl ⟨by rfl, ?_⟩) (by assumption) ?_
            rotate_left 1
            · intro w hSw; (try dsimp only at hSw); go_simp; try with_reducible rfl
            try conv => arg 8; simp only [Act.put, List.setIfInBounds_toArray, List.set_cons_zero, List.set_cons_succ]
            refine wpAnyH_done (by kernel_rfl) ?_ _

            clear HS hHeld
            go_wp2_with fail
            go_roundw
            case rel => first | exact ⟨k + 1, by omega, by go_num, by rw [HST.out, HEQ.out.1, HEQ.out.2]; first | rfl | (cases d1 <;> cases d2 <;> rfl), bz.trans (bb.mono bz.size)⟩ | exact ⟨k + 1, by omega, by omega, by rw [HST.out, HEQ.out.1, HEQ.out.2]; first | rfl | (cases d1 <;> cases d2 <;> rfl) | (cases d1 <;> cases d2 <;> simp), bz.trans (bb.mono bz.size)⟩
            case measure => simp [intOf]; omega
          | false =>
            have HEQ := Lib.hid (show (sb && (sk && (d1 == d2))) = false by rw [← Bool.and_assoc, hbk, Bool.false_and])
            clear hbk
            have HS := Lib.hid fun (W : World) (bW : Below wr.heap.size wr W) => (show W.cell? ⟨b1, o1 + k, none⟩ = some (.slice Rk rkn rkc) from cell_call y1 bW)
            have bb := Below.refl wr.heap.size wr
            refine wp_region_held_drew (S := fun w' => w'.cell? ⟨b1, o1 + k, none⟩ = some (.slice Rk rkn rkc)) (by kernel_rfl) ?_ (fun hHeld => ?_)
            · exact HS.out _ (below_drewN bb 1)
            replace bb := below_drewN bb 1
            change Below _ _ wr.drew at bb
            generalize hw0 : wr.drew = W0 at hHeld bb ⊢
            clear hw0
            refine wpAnyH_take (i := 0) (v := ?_) (by simp only [List.getElem?_toArray]; rfl) (by kernel_rfl) (by kernel_rfl) (by kernel_rfl) (by exact fun _ _ _ h => h) (Or.inl ⟨by rfl, ?_⟩) (by assumption) ?_
            rotate_left 1
            · intro w hSw; (try dsimp only at hSw); go_simp; try with_reducible rfl
            try conv => arg 8; simp only [Act.put, List.setIfInBounds_toArray, List.set_cons_zero, List.set_cons_succ]
            refine wpAnyH_take (i := 1) (v := ?_) (by simp only [List.getElem?_toArray]; rfl) (by kernel_rfl) (by kernel_rfl) (by kernel_rfl) (by exact fun _ _ _ h => h) (Or.inl ⟨by rfl, ?_⟩) (by assumption) ?_
            rotate_left 1
            · intro w hSw; (try dsimp only at hSw); go_simp; try with_reducible rfl
            try conv => arg 8; simp only [Act.put, List.setIfInBounds_toArray, List.set_cons_zero, List.set_cons_succ]
            refine wpAnyH_take (i := 2) (v := undef) (by simp only [List.getElem?_toArray]; rfl) (by kernel_rfl) (by kernel_rfl) (by kernel_rfl) (by exact fun _ _ _ h => h) (Or.inr ⟨by rfl, rfl⟩) (by assumption) ?_
            try conv => arg 8; simp only [Act.put, List.setIfInBounds_toArray, List.set_cons_zero, List.set_cons_succ]
            refine wpAnyH_take (i := 3) (v := undef) (by simp only [List.getElem?_toArray]; rfl) (by kernel_rfl) (by kernel_rfl) (by kernel_rfl) (by exact fun _ _ _ h => h) (Or.inr ⟨by rfl, rfl⟩) (by assumption) ?_
            try conv => arg 8; simp only [Act.put, List.setIfInBounds_toArray, List.set_cons_zero, List.set_cons_succ]
            refine wpAnyH_take (i := 4) (v := undef) (by simp only [List.getElem?_toArray]; rfl) (by kernel_rfl) (by kernel_rfl) (by kernel_rfl) (by exact fun _ _ _ h => h) (Or.inr ⟨by rfl, rfl⟩) (by assumption) ?_
            try conv => arg 8; simp only [Act.put, List.setIfInBounds_toArray, List.set_cons_zero, List.set_cons_succ]
            refine wpAnyH_take (i := 5) (v := undef) (by simp only [List.getElem?_toArray]; rfl) (by kernel_rfl) (by kernel_rfl) (by kernel_rfl) (by exact fun _ _ _ h => h) (Or.inr ⟨by rfl, rfl⟩) (by assumption) ?_
            try conv => arg 8; simp only [Act.put, List.setIfInBounds_toArray, List.set_cons_zero, List.set_cons_succ]
            refine wpAnyH_take (i := 6) (v := undef) (by simp only [List.getElem?_toArray]; rfl) (by kernel_rfl) (by kernel_rfl) (by kernel_rfl) (by exact fun _ _ _ h => h) (Or.inr ⟨by rfl, rfl⟩) (by assumption) ?_
            try conv => arg 8; simp only [Act.put, List.setIfInBounds_toArray, List.set_cons_zero, List.set_cons_succ]
            refine wpAnyH_take (i := 7) (v := undef) (by simp only [List.getElem?_toArray]; rfl) (by kernel_rfl) (by kernel_rfl) (by kernel_rfl) (by exact fun _ _ _ h => h) (Or.inr ⟨by rfl, rfl⟩) (by assumption) ?_
            try conv => arg 8; simp only [Act.put, List.setIfInBounds_toArray, List.set_cons_zero, List.set_cons_succ]
            refine wpAnyH_take (i := 8) (v := undef) (by simp only [List.getElem?_toArray]; rfl) (by kernel_rfl) (by kernel_rfl) (by kernel_rfl) (by exact fun _ _ _ h => h) (Or.inr ⟨by rfl, rfl⟩) (by assumption) ?_
            try conv => arg 8; simp only [Act.put, List.setIfInBounds_toArray, List.set_cons_zero, List.set_cons_succ]
            refine wpAnyH_take (i := 9) (v := undef) (by simp only [List.getElem?_toArray]; rfl) (by kernel_rfl) (by kernel_rfl) (by kernel_rfl) (by exact fun _ _ _ h => h) (Or.inr ⟨by rfl, rfl⟩) (by assumption) ?_
            try conv => arg 8; simp only [Act.put, List.setIfInBounds_toArray, List.set_cons_zero, List.set_cons_succ]
            refine wpAnyH_take (i := 10) (v := undef) (by simp only [List.getElem?_toArray]; rfl) (by kernel_rfl) (by kernel_rfl) (by kernel_rfl) (by exact fun _ _ _ h => h) (Or.inr ⟨by rfl, rfl⟩) (by assumption) ?_
            try conv => arg 8; simp only [Act.put, List.setIfInBounds_toArray, List.set_cons_zero, List.set_cons_succ]
            refine wpAnyH_take (i := 11) (v := undef) (by simp only [List.getElem?_toArray]; rfl) (by kernel_rfl) (by kernel_rfl) (by kernel_rfl) (by exact fun _ _ _ h => h) (Or.inr ⟨by rfl, rfl⟩) (by assumption) ?_
            try conv => arg 8; simp only [Act.put, List.setIfInBounds_toArray, List.set_cons_zero, List.set_cons_succ]
            refine wpAnyH_take (i := 12) (v := undef) (by simp only [List.getElem?_toArray]; rfl) (by kernel_rfl) (by kernel_rfl) (by kernel_rfl) (by exact fun _ _ _ h => h) (Or.inr ⟨by rfl, rfl⟩) (by assumption) ?_
            try conv => arg 8; simp only [Act.put, List.setIfInBounds_toArray, List.set_cons_zero, List.set_cons_succ]
            refine wpAnyH_take (i := 13) (v := undef) (by simp only [List.getElem?_toArray]; rfl) (by kernel_rfl) (by kernel_rfl) (by kernel_rfl) (by exact fun _ _ _ h => h) (Or.inr ⟨by rfl, rfl⟩) (by assumption) ?_
            try conv => arg 8; simp only [Act.put, List.setIfInBounds_toArray, List.set_cons_zero, List.set_cons_succ]
            refine wpAnyH_take (i := 14) (v := undef) (by simp only [List.getElem?_toArray]; rfl) (by kernel_rfl) (by kernel_rfl) (by kernel_rfl) (by exact fun _ _ _ h => h) (Or.inr ⟨by rfl, rfl⟩) (by assumption) ?_
            try conv => arg 8; simp only [Act.put, List.setIfInBounds_toArray, List.set_cons_zero, List.set_cons_succ]
            refine wpAnyH_take (i := 15) (v := ?_) (by simp only [List.getElem?_toArray]; rfl) (by kernel_rfl) (by kernel_rfl) (by kernel_rfl) (by exact fun _ _ _ h => h) (Or.inl ⟨by rfl, ?_⟩) (by assumption) ?_
            rotate_left 1
            · intro w hSw; (try dsimp only at hSw); go_simp; try with_reducible rfl
            try conv => arg 8; simp only [Act.put, List.setIfInBounds_toArray, List.set_cons_zero, List.set_cons_succ]
            refine wpAnyH_take (i := 16) (v := ?_) (by simp only [List.getElem?_toArray]; rfl) (by kernel_rfl) (by kernel_rfl) (by kernel_rfl) (by exact fun _ _ _ h => h) (Or.inl ⟨by rfl, ?_⟩) (by assumption) ?_
            rotate_left 1
            · intro w hSw; (try dsimp only at hSw); go_simp; try with_reducible rfl
            try conv => arg 8; simp only [Act.put, List.setIfInBounds_toArray, List.set_cons_zero, List.set_cons_succ]
            refine wpAnyH_done (by kernel_rfl) ?_ _

            clear HS hHeld
            go_wp2_with fail
            go_roundw
            case rel => first | exact ⟨k + 1, by omega, by go_num, by rw [HST.out, HEQ.out], bz.trans (bb.mono bz.size)⟩ | exact ⟨k + 1, by omega, by omega, by rw [HST.out, HEQ.out], bz.trans (bb.mono bz.size)⟩
            case measure => simp [intOf]; omega
        · have hke : k = N := by omega
          subst hke
          have kn : ¬ ((k : Int) < (k : Int)) := by omega
          have htk : all.take k = all := List.take_of_length_le (by rw [HLA.out]; exact Nat.le_refl _)
          rw [htk]
          have HE := Lib.hid HSB.out
          obtain ⟨fin, hfin⟩ : ∃ b, (sb && sameB all p q) = b := ⟨_, rfl⟩
          rw [hfin] at HE ⊢
          clear htk hfin
          go_wp2
          go_roundw
          case rel => first | exact ⟨i + 1, by omega, by go_num, by rw [HE.out], below_trans2 HBW.out bz⟩ | exact ⟨i + 1, by omega, by omega, by rw [HE.out], below_trans2 HBW.out bz⟩
          case measure => simp [intOf]; omega
    · have inn : ¬ (i : Int) < (qn : Int) := by omega
      have htk : (madeR rs).take i = madeR rs := List.take_of_length_le (by rw [LQ.out]; omega)
      rw [htk]
      have HSC := Lib.hid (sameB_cls (rs := madeR rs) hp hq)
      have HSA := Lib.hid (fun h => sameB_all (rs := madeR rs) (p := (p : Int)) (q := (q : Int)) h)
      obtain ⟨sb, hsb⟩ : ∃ sb, sameB (setsL (madeR rs)) p q = sb := ⟨_, rfl⟩
      rw [hsb] at HSC HSA ⊢
      clear htk hsb hi hlt
      have hA6 := HAA.out.call bz
      obtain ⟨cx, hcx⟩ := at_some a.cls p (by rw [hAC, clsL_len]; exact hp)
      obtain ⟨cy, hcy⟩ := at_some a.cls q (by rw [hAC, clsL_len]; exact hq)
      have HXY := Lib.hid (show sb = true ↔ cx = cy by
        rw [HSC.out, ← hAC, hcx, hcy]
        constructor
        · intro h; injection h
        · intro h; rw [h])
      obtain ⟨bc, oc, hca, _, hc⟩ := hA6.1.c.pos (show 0 < v.cn by have h1 := HAA.out.1.c.len; change a.cls.length = v.cn at h1; rw [← h1, hAC, clsL_len]; exact hgn0)
      have hca' : v.ca = some ⟨bc, oc, none⟩ := hca
      obtain ⟨_, rfl, hcp⟩ := hc p cx hcx
      obtain ⟨_, rfl, hcq⟩ := hc q cy hcy
      have y1 := hcp 0 _ rfl
      have y2 := hcq 0 _ rfl
      rw [Nat.mul_one, Nat.add_zero] at y1 y2
      have kA := KA.out.below bz KA.out.lt
      have a0 := (box_cells kA 0 rfl).trans (show _ = some (Value.slice (some ⟨bc, oc, none⟩) gn v.cc) by rw [hca']; rfl)
      have pz : (0 : Int) ≤ (p : Int) := by omega
      have pn : (p : Int) < (gn : Int) := by omega
      have qz : (0 : Int) ≤ (q : Int) := by omega
      have qnn : (q : Int) < (gn : Int) := by omega
      have HAC := Lib.hid hAC
      clear hA6 hcx hcy HSC hc hcp hcq hca hca' hAC
      go_upto_region 18 with fail
      clear f3 z2 inn
      by_cases hxy : cx = cy
      · obtain rfl : sb = true := HXY.out.2 hxy
        subst hxy
        have HS := Lib.hid fun (W : World) (bW : Below wr.heap.size wr W) => (show W.cell? ⟨gA, 0, none⟩ = some (.slice (some ⟨bc, oc, none⟩) gn v.cc) ∧ W.cell? ⟨bc, oc + p, none⟩ = some (.int .i64 cx) ∧ W.cell? ⟨bc, oc + q, none⟩ = some (.int .i64 cx) from ⟨cell_call a0 bW, cell_call y1 bW, cell_call y2 bW⟩)
        have bb := Below.refl wr.heap.size wr
        refine wp_region_held_drew (S := fun w' => w'.cell? ⟨gA, 0, none⟩ = some (.slice (some ⟨bc, oc, none⟩) gn v.cc) ∧ w'.cell? ⟨bc, oc + p, none⟩ = some (.int .i64 cx) ∧ w'.cell? ⟨bc, oc + q, none⟩ = some (.int .i64 cx)) (by kernel_rfl) ?_ (fun hHeld => ?_)
        · exact HS.out _ (below_drewN bb 1)
        replace bb := below_drewN bb 1
        change Below _ _ wr.drew at bb
        generalize hw0 : wr.drew = W0 at hHeld bb ⊢
        clear hw0
        refine wpAnyH_take (i := 0) (v := ?_) (by simp only [List.getElem?_toArray]; rfl) (by kernel_rfl) (by kernel_rfl) (by kernel_rfl) (by exact fun _ _ _ h => h) (Or.inl ⟨by rfl, ?_⟩) (by assumption) ?_
        rotate_left 1
        · intro w hSw; (try dsimp only at hSw); go_simp; try with_reducible rfl
        try conv => arg 8; simp only [Act.put, List.setIfInBounds_toArray, List.set_cons_zero, List.set_cons_succ]
        refine wpAnyH_take (i := 1) (v := ?_) (by simp only [List.getElem?_toArray]; rfl) (by kernel_rfl) (by kernel_rfl) (by kernel_rfl) (by exact fun _ _ _ h => h) (Or.inl ⟨by rfl, ?_⟩) (by assumption) ?_
        rotate_left 1
        · intro w hSw; (try dsimp only at hSw); go_simp; try with_reducible rfl
        try conv => arg 8; simp only [Act.put, List.setIfInBounds_toArray, List.set_cons_zero, List.set_cons_succ]
        refine wpAnyH_take (i := 2) (v := ?_) (by simp only [List.getElem?_toArray]; rfl) (by kernel_rfl) (by kernel_rfl) (by kernel_rfl) (by exact fun _ _ _ h => h) (Or.inl ⟨by rfl, ?_⟩) (by assumption) ?_
        rotate_left 1
        · intro w hSw; (try dsimp only at hSw); go_simp; try with_reducible rfl
        try conv => arg 8; simp only [Act.put, List.setIfInBounds_toArray, List.set_cons_zero, List.set_cons_succ]
        refine wpAnyH_take (i := 3) (v := ?_) (by simp only [List.getElem?_toArray]; rfl) (by kernel_rfl) (by kernel_rfl) (by kernel_rfl) (by exact fun _ _ _ h => h) (Or.inl ⟨by rfl, ?_⟩) (by assumption) ?_
        rotate_left 1
        · intro w hSw; (try dsimp only at hSw); go_simp; try with_reducible rfl
        try conv => arg 8; simp only [Act.put, List.setIfInBounds_toArray, List.set_cons_zero, List.set_cons_succ]
        refine wpAnyH_take (i := 4) (v := ?_) (by simp only [List.getElem?_toArray]; rfl) (by kernel_rfl) (by kernel_rfl) (by kernel_rfl) (by exact fun _ _ _ h => h) (Or.inl ⟨by rfl, ?_⟩) (by assumption) ?_
        rotate_left 1
        · intro w hSw; (try dsimp only at hSw); go_simp; try with_reducible rfl
        try conv => arg 8; simp only [Act.put, List.setIfInBounds_toArray, List.set_cons_zero, List.set_cons_succ]
        refine wpAnyH_take (i := 5) (v := ?_) (by simp only [List.getElem?_toArray]; rfl) (by kernel_rfl) (by kernel_rfl) (by kernel_rfl) (by exact fun _ _ _ h => h) (Or.inl ⟨by rfl, ?_⟩) (by assumption) ?_
        rotate_left 1
        · intro w hSw; (try dsimp only at hSw); go_simp; try with_reducible rfl
        try conv => arg 8; simp only [Act.put, List.setIfInBounds_toArray, List.set_cons_zero, List.set_cons_succ]
        refine wpAnyH_take (i := 6) (v := ?_) (by simp only [List.getElem?_toArray]; rfl) (by kernel_rfl) (by kernel_rfl) (by kernel_rfl) (by exact fun _ _ _ h => h) (Or.inl ⟨by rfl, ?_⟩) (by assumption) ?_
        rotate_left 1
        · intro w hSw; (try dsimp only at hSw); go_simp; try with_reducible rfl
        try conv => arg 8; simp only [Act.put, List.setIfInBounds_toArray, List.set_cons_zero, List.set_cons_succ]
        refine wpAnyH_take (i := 7) (v := ?_) (by simp only [List.getElem?_toArray]; rfl) (by kernel_rfl) (by kernel_rfl) (by kernel_rfl) (by exact fun _ _ _ h => h) (Or.inl ⟨by rfl, ?_⟩) (by assumption) ?_
        rotate_left 1
        · intro w hSw; (try dsimp only at hSw); go_simp; try with_reducible rfl
        try conv => arg 8; simp only [Act.put, List.setIfInBounds_toArray, List.set_cons_zero, List.set_cons_succ]
        refine wpAnyH_take (i := 8) (v := ?_) (by simp only [List.getElem?_toArray]; rfl) (by kernel_rfl) (by kernel_rfl) (by kernel_rfl) (by exact fun _ _ _ h => h) (Or.inl ⟨by rfl, ?_⟩) (by assumption) ?_
        rotate_left 1
        · intro w hSw; (try dsimp only at hSw); go_simp; try with_reducible rfl
        try conv => arg 8; simp only [Act.put, List.setIfInBounds_toArray, List.set_cons_zero, List.set_cons_succ]
        refine wpAnyH_take (i := 9) (v := ?_) (by simp only [List.getElem?_toArray]; rfl) (by kernel_rfl) (by kernel_rfl) (by kernel_rfl) (by exact fun _ _ _ h => h) (Or.inl ⟨by rfl, ?_⟩) (by assumption) ?_
        rotate_left 1
        · intro w hSw; (try dsimp only at hSw); go_simp; try with_reducible rfl
        try conv => arg 8; simp only [Act.put, List.setIfInBounds_toArray, List.set_cons_zero, List.set_cons_succ]
        refine wpAnyH_take (i := 10) (v := ?_) (by simp only [List.getElem?_toArray]; rfl) (by kernel_rfl) (by kernel_rfl) (by kernel_rfl) (by exact fun _ _ _ h => h) (Or.inl ⟨by rfl, ?_⟩) (by assumption) ?_
        rotate_left 1
        · intro w hSw; (try dsimp only at hSw); go_simp; try with_reducible rfl
        try conv => arg 8; simp only [Act.put, List.setIfInBounds_toArray, List.set_cons_zero, List.set_cons_succ]
        refine wpAnyH_take (i := 11) (v := ?_) (by simp only [List.getElem?_toArray]; rfl) (by kernel_rfl) (by kernel_rfl) (by kernel_rfl) (by exact fun _ _ _ h => h) (Or.inl ⟨by rfl, ?_⟩) (by assumption) ?_
        rotate_left 1
        · intro w hSw; (try dsimp only at hSw); go_simp; try with_reducible rfl
        try conv => arg 8; simp only [Act.put, List.setIfInBounds_toArray, List.set_cons_zero, List.set_cons_succ]
        refine wpAnyH_take (i := 12) (v := ?_) (by simp only [List.getElem?_toArray]; rfl) (by kernel_rfl) (by kernel_rfl) (by kernel_rfl) (by exact fun _ _ _ h => h) (Or.inl ⟨by rfl, ?_⟩) (by assumption) ?_
        rotate_left 1
        · intro w hSw; (try dsimp only at hSw); go_simp; try with_reducible rfl
        try conv => arg 8; simp only [Act.put, List.setIfInBounds_toArray, List.set_cons_zero, List.set_cons_succ]
        refine wpAnyH_done (by kernel_rfl) ?_ _
        replace bz := bz.trans (bb.mono bz.size)
        clear HS hHeld y1 y2 a0 bb
        have hBt := below_trans2 B5.out bz
        have kX := KX.out.below bz KX.out.lt
        have kF := KF.out.below bz KF.out.lt
        have kA := KA.out.below bz KA.out.lt
        have hAw := HAA.out.call bz
        go_upto_region 20 with fail
        obtain ⟨wB, hwB⟩ : ∃ wB : World, wB = W0 := ⟨_, rfl⟩
        rw [← hwB] at hBt kX kF kA hAw bz
        try rw [← hwB]
        clear hwB
        have KXB := Lib.hid kX; have KFB := Lib.hid kF; have KAB := Lib.hid kA; have HAB := Lib.hid hAw; have BB := Lib.hid hBt
        clear hBt kX kF kA hAw bz KX KF KA HAA HFF HRR Z2 LQ
        have htw : Two wB ((wB.alloc (.cells #[] 3)).alloc (.cells #[] 3)) (some ⟨wB.heap.size, 0, none⟩) 0 0 (modG gn (l1.take 0)) (some ⟨wB.heap.size + 1, 0, none⟩) 0 0 ((modG gn (l1.take 0)).map (swapG p q)) := by
          have h2 := Ow.empty 3 1 (wB.alloc (.cells #[] 3)) wB.heap.size (by rw [World.size_alloc]; omega)
          rw [World.size_alloc] at h2
          exact ⟨below_lit _ _ (below_lit _ _ (Below.refl _ _) _) _, (Ow.empty 3 1 wB wB.heap.size (Nat.le_refl _)).alloc _, h2, fun b e1 e2 => by
            injection e1 with e1; injection e2 with e2
            have e1' : wB.heap.size = b := e1
            have e2' : wB.heap.size + 1 = b := e2
            omega⟩
        go_upto_region 23 with fail
        generalize (wB.alloc (.cells #[] 3)).alloc (.cells #[] 3) = w8 at *
        go_loopw [18, 19, 20] (fun ov tv iv wr => ∃ (i : Nat) (Ax : Option Addr) (d : Nat) (Bx : Option Addr) (d' : Nat), i ≤ 10 ∧ i ≤ n1 ∧ iv = .int .i64 i ∧ ov = .slice Ax i d ∧ tv = .slice Bx i d' ∧ Two wB wr Ax i d (modG gn (l1.take i)) Bx i d' ((modG gn (l1.take i)).map (swapG p q))) (fun _ _ iv _ => n1 - (intOf iv).toNat)
        case atStart => exact ⟨0, _, _, _, _, by omega, by omega, rfl, rfl, rfl, htw⟩
        case round =>
          clear htw
          obtain ⟨i, Ax, d, Bx, d', hi10, hin, rfl, rfl, rfl, htw⟩ := hrel
          have yx := box_cells (KXB.out.below htw.bl KXB.out.lt) 7 rfl
          by_cases hlt : i < n1
          · have inn : (i : Int) < (n1 : Int) := by omega
            by_cases hlt10 : i < 10
            · have i10 : (i : Int) < 10 := by omega
              have iz : (0 : Int) ≤ (i : Int) := by omega
              obtain ⟨x, hx⟩ := at_some l1 i (by rw [L1.out]; omega)
              obtain ⟨ba, oa, rfl, hba, hcc⟩ := (HR1.out w (Below.refl _ _)).pos (show 0 < n1 by omega)
              obtain ⟨cs, rfl, hcc2⟩ := hcc i x hx
              have bwr := below_trans2 BB.out htw.bl
              have xe := (bwr.cell (p := ⟨ba, oa + i * 1 + 0, none⟩) hba).trans (hcc2 0 _ rfl)
              rw [Nat.mul_one, Nat.add_zero] at xe
              change ba < w.heap.size at hba
              have HMG := Lib.hid (modG_succ gn hx)
              have HMS := Lib.hid (swap_succ gn hx p q)
              obtain ⟨z, hz⟩ : ∃ z : Int, x % 65536 % (gn : Int) = z := ⟨_, rfl⟩
              have e1 := and65535 x
              obtain ⟨z0, hz0⟩ : ∃ z0 : Nat, x % 65536 = (z0 : Int) := ⟨(x % 65536).toNat, by omega⟩
              rw [hz0] at e1 hz
              have e2 : (z0 : Int).tmod (gn : Int) = z := by rw [Int.tmod_eq_emod_of_nonneg (by omega)]; exact hz
              rw [hz0, hz] at HMG HMS
              have ez2 : ¬ (gn = 0) := by omega
              have yf := box_cells (KFB.out.below htw.bl KFB.out.lt) 1 rfl
              clear hcc hcc2 hx hz hz0 bwr
              go_upto_region 25 with fail
              have HS := Lib.hid fun (W : World) (bW : Below wr.heap.size wr W) => (show W.cell? ⟨w.heap.size, 7, none⟩ = some (.slice (some ⟨ba, oa, none⟩) n1 c1) ∧ W.cell? ⟨ba, oa + i, none⟩ = some (.int .i64 x) ∧ W.cell? ⟨gF, 1, none⟩ = some (.slice f.ga gn f.gc) from ⟨cell_call yx bW, cell_call xe bW, cell_call yf bW⟩)
              have bb := Below.refl wr.heap.size wr
              refine wp_region_held_drew (S := fun w' => w'.cell? ⟨w.heap.size, 7, none⟩ = some (.slice (some ⟨ba, oa, none⟩) n1 c1) ∧ w'.cell? ⟨ba, oa + i, none⟩ = some (.int .i64 x) ∧ w'.cell? ⟨gF, 1, none⟩ = some (.slice f.ga gn f.gc)) (by kernel_rfl) ?_ (fun hHeld => ?_)
              · exact HS.out _ (below_drewN bb 1)
              replace bb := below_drewN bb 1
              change Below _ _ wr.drew at bb
              generalize hw0 : wr.drew = W0 at hHeld bb ⊢
              clear hw0
              refine wpAnyH_take (i := 0) (v := ?_) (by simp only [List.getElem?_toArray]; rfl) (by kernel_rfl) (by kernel_rfl) (by kernel_rfl) (by exact fun _ _ _ h => h) (Or.inl ⟨by rfl, ?_⟩) (by assumption) ?_
              rotate_left 1
              · intro w hSw; (try dsimp only at hSw); go_simp; try with_reducible rfl
              try conv => arg 8; simp only [Act.put, List.setIfInBounds_toArray, List.set_cons_zero, List.set_cons_succ]
              refine wpAnyH_take (i := 1) (v := ?_) (by simp only [List.getElem?_toArray]; rfl) (by kernel_rfl) (by kernel_rfl) (by kernel_rfl) (by exact fun _ _ _ h => h) (Or.inl ⟨by rfl, ?_⟩) (by assumption) ?_
              rotate_left 1
              · intro w hSw; (try dsimp only at hSw); go_simp; try with_reducible rfl
              try conv => arg 8; simp only [Act.put, List.setIfInBounds_toArray, List.set_cons_zero, List.set_cons_succ]
              refine wpAnyH_take (i := 2) (v := ?_) (by simp only [List.getElem?_toArray]; rfl) (by kernel_rfl) (by kernel_rfl) (by kernel_rfl) (by exact fun _ _ _ h => h) (Or.inl ⟨by rfl, ?_⟩) (by assumption) ?_
              rotate_left 1
              · intro w hSw; (try dsimp only at hSw); go_simp; try with_reducible rfl
              try conv => arg 8; simp only [Act.put, List.setIfInBounds_toArray, List.set_cons_zero, List.set_cons_succ]
              refine wpAnyH_take (i := 3) (v := ?_) (by simp only [List.getElem?_toArray]; rfl) (by kernel_rfl) (by kernel_rfl) (by kernel_rfl) (by exact fun _ _ _ h => h) (Or.inl ⟨by rfl, ?_⟩) (by assumption) ?_
              rotate_left 1
              · intro w hSw; (try dsimp only at hSw); go_simp; try with_reducible rfl
              try conv => arg 8; simp only [Act.put, List.setIfInBounds_toArray, List.set_cons_zero, List.set_cons_succ]
              refine wpAnyH_take (i := 4) (v := ?_) (by simp only [List.getElem?_toArray]; rfl) (by kernel_rfl) (by kernel_rfl) (by kernel_rfl) (by exact fun _ _ _ h => h) (Or.inl ⟨by rfl, ?_⟩) (by assumption) ?_
              rotate_left 1
              · intro w hSw; (try dsimp only at hSw); go_simp; try with_reducible rfl
              try conv => arg 8; simp only [Act.put, List.setIfInBounds_toArray, List.set_cons_zero, List.set_cons_succ]
              refine wpAnyH_take (i := 5) (v := ?_) (by simp only [List.getElem?_toArray]; rfl) (by kernel_rfl) (by kernel_rfl) (by kernel_rfl) (by exact fun _ _ _ h => h) (Or.inl ⟨by rfl, ?_⟩) (by assumption) ?_
              rotate_left 1
              · intro w hSw; (try dsimp only at hSw); go_simp; try with_reducible rfl
              try conv => arg 8; simp only [Act.put, List.setIfInBounds_toArray, List.set_cons_zero, List.set_cons_succ]
              refine wpAnyH_take (i := 6) (v := ?_) (by simp only [List.getElem?_toArray]; rfl) (by kernel_rfl) (by kernel_rfl) (by kernel_rfl) (by exact fun _ _ _ h => h) (Or.inl ⟨by rfl, ?_⟩) (by assumption) ?_
              rotate_left 1
              · intro w hSw; (try dsimp only at hSw); go_simp; try with_reducible rfl
              try conv => arg 8; simp only [Act.put, List.setIfInBounds_toArray, List.set_cons_zero, List.set_cons_succ]
              refine wpAnyH_take (i := 7) (v := ?_) (by simp only [List.getElem?_toArray]; rfl) (by kernel_rfl) (by kernel_rfl) (by kernel_rfl) (by exact fun _ _ _ h => h) (Or.inl ⟨by rfl, ?_⟩) (by assumption) ?_
              rotate_left 1
              · intro w hSw; (try dsimp only at hSw); go_simp; try with_reducible rfl
              try conv => arg 8; simp only [Act.put, List.setIfInBounds_toArray, List.set_cons_zero, List.set_cons_succ]
              refine wpAnyH_take (i := 8) (v := ?_) (by simp only [List.getElem?_toArray]; rfl) (by kernel_rfl) (by kernel_rfl) (by kernel_rfl) (by exact fun _ _ _ h => h) (Or.inl ⟨by rfl, ?_⟩) (by assumption) ?_
              rotate_left 1
              · intro w hSw; (try dsimp only at hSw); go_simp; try with_reducible rfl
              try conv => arg 8; simp only [Act.put, List.setIfInBounds_toArray, List.set_cons_zero, List.set_cons_succ]
              refine wpAnyH_take (i := 9) (v := ?_) (by simp only [List.getElem?_toArray]; rfl) (by kernel_rfl) (by kernel_rfl) (by kernel_rfl) (by exact fun _ _ _ h => h) (Or.inl ⟨by rfl, ?_⟩) (by assumption) ?_
              rotate_left 1
              · intro w hSw; (try dsimp only at hSw); go_simp; try with_reducible rfl
              try conv => arg 8; simp only [Act.put, List.setIfInBounds_toArray, List.set_cons_zero, List.set_cons_succ]
              refine wpAnyH_take (i := 10) (v := ?_) (by simp only [List.getElem?_toArray]; rfl) (by kernel_rfl) (by kernel_rfl) (by kernel_rfl) (by exact fun _ _ _ h => h) (Or.inl ⟨by rfl, ?_⟩) (by assumption) ?_
              rotate_left 1
              · intro w hSw; (try dsimp only at hSw); go_simp; try with_reducible rfl
              try conv => arg 8; simp only [Act.put, List.setIfInBounds_toArray, List.set_cons_zero, List.set_cons_succ]
              refine wpAnyH_done (by kernel_rfl) ?_ _

              replace htw := htw.call bb
              clear HS hHeld bb yx xe yf hba e1 e2
              have HSS := Lib.hid htw
              have hp0 := htw.o0.alloc (.cells #[.int .i64 z] 3)
              have hnw := news_new W0 [.int .i64 z] 3
              have hs2 : wB.heap.size ≤ (W0.alloc (.cells #[.int .i64 z] 3)).heap.size := by rw [World.size_alloc]; have h1 := htw.bl.size; omega
              have HOW := Lib.hid hp0; have HNW := Lib.hid hnw
              clear hp0 hnw htw
              go_upto_region 27 with (at_builtin; refine appP elt_int rfl _ _ rfl (W0.alloc (.cells #[.int .i64 z] 3)) wB.heap.size _ _ _ (ic (modG gn (l1.take i))) _ 1 1 [.int .i64 z] (by rfl) (by rfl) HOW.out rfl HNW.out (by simp [Value.oneCell']) (by omega) hs2 ?_; intro A2 d2 W4 ho4 hg4 hb4 hat4)
              have hp1 := HSS.out.push0 (Below.refl _ _) ho4 hg4 hb4 hat4
              clear ho4 hg4 hb4 hat4 HOW HNW hs2 HSS
              have HS1 := Lib.hid hp1
              clear hp1
              by_cases hzp : z = (p : Int)
              · have HZP := Lib.hid (show swapG p q z = (q : Int) by unfold swapG; rw [if_pos hzp])
                have tz : ((z : Int) == (p : Int)) = true := by simp; exact hzp
                have tz2 : decide ((z : Int) = (p : Int)) = true := by simp; exact hzp
                clear hzp
                have hp0 := HS1.out.o1.alloc (.cells #[.int .i64 q] 3)
                have hnw := news_new W4 [.int .i64 q] 3
                have hs2 : wB.heap.size ≤ (W4.alloc (.cells #[.int .i64 q] 3)).heap.size := by rw [World.size_alloc]; have h1 := HS1.out.bl.size; omega
                have HOW := Lib.hid hp0; have HNW := Lib.hid hnw
                clear hp0 hnw
                go_wp2_with (at_builtin; refine appP elt_int rfl _ _ rfl (W4.alloc (.cells #[.int .i64 q] 3)) wB.heap.size _ _ _ (ic ((modG gn (l1.take i)).map (swapG p q))) _ 1 1 [.int .i64 q] (by rfl) (by rfl) HOW.out rfl HNW.out (by simp [Value.oneCell']) (by omega) hs2 ?_; intro A3 d3 W5 ho5 hg5 hb5 hat5)
                have hp2 := HS1.out.push1 (Below.refl _ _) ho5 hg5 hb5 hat5
                go_roundw
                case rel => first | exact ⟨i + 1, A2, d2, A3, d3, by omega, by omega, by go_num, rfl, rfl, by rw [HMS.out, HMG.out, HZP.out]; exact hp2⟩ | exact ⟨i + 1, by omega, by omega, by omega, A2, d2, rfl, A3, d3, rfl, by rw [HMS.out, HMG.out, HZP.out]; exact hp2⟩
                case measure => simp [intOf]; omega
              · have HZP := Lib.hid (show swapG p q z = z by unfold swapG; rw [if_neg hzp])
                have hp0 := HS1.out.o1.alloc (.cells #[.int .i64 z] 3)
                have hnw := news_new W4 [.int .i64 z] 3
                have hs2 : wB.heap.size ≤ (W4.alloc (.cells #[.int .i64 z] 3)).heap.size := by rw [World.size_alloc]; have h1 := HS1.out.bl.size; omega
                have HOW := Lib.hid hp0; have HNW := Lib.hid hnw
                clear hp0 hnw
                go_wp2_with (at_builtin; refine appP elt_int rfl _ _ rfl (W4.alloc (.cells #[.int .i64 z] 3)) wB.heap.size _ _ _ (ic ((modG gn (l1.take i)).map (swapG p q))) _ 1 1 [.int .i64 z] (by rfl) (by rfl) HOW.out rfl HNW.out (by simp [Value.oneCell']) (by omega) hs2 ?_; intro A3 d3 W5 ho5 hg5 hb5 hat5)
                have hp2 := HS1.out.push1 (Below.refl _ _) ho5 hg5 hb5 hat5
                go_roundw
                case rel => first | exact ⟨i + 1, A2, d2, A3, d3, by omega, by omega, by go_num, rfl, rfl, by rw [HMS.out, HMG.out, HZP.out]; exact hp2⟩ | exact ⟨i + 1, by omega, by omega, by omega, A2, d2, rfl, A3, d3, rfl, by rw [HMS.out, HMG.out, HZP.out]; exact hp2⟩
                case measure => simp [intOf]; omega

            · have i10 : ¬ (i : Int) < 10 := by omega
              have htk : l1.take i = l1.take 10 := by rw [show i = 10 by omega]
              rw [htk] at htw
              have hy0 := modG_ok hgn0 (l1.take 10)
              have hy1 := swapG_ok (p := (p : Int)) (q := (q : Int)) (n := gn) ⟨by omega, by omega⟩ hy0
              obtain ⟨y0, hY0⟩ : ∃ y, modG gn (l1.take 10) = y := ⟨_, rfl⟩
              rw [hY0] at hy0 hy1 htw
              have hl0 : i ≤ 9223372036854775807 := by have := htw.o0.cap; omega
              have bwr := below_trans2 BB.out htw.bl
              have kA := KAB.out.below htw.bl KAB.out.lt
              have hAw := HAB.out.call htw.bl
              have r0 := htw.o0.rd
              have r1 := htw.o1.rd
              have a0 := box_cells kA 0 rfl
              have a1 := box_cells kA 1 rfl
              have a2 := box_cells kA 2 rfl
              have a3 := box_cells kA 3 rfl
              have a4 := box_cells kA 4 rfl
              go_upto_region 30 with fail
              clear yx hi10 hin hlt inn i10 hlt10
              have hsw : foreA a y0 = foreA a (y0.map (swapG p q)) ∧ backA a y0 = backA a (y0.map (swapG p q)) := by
                have h1 := built_says HAU.out y0 hy0
                have h2 := built_says HAU.out (y0.map (swapG p q)) hy1
                have h3 := says_swap (rs := madeR rs) (HSA.out (by first | rfl | trivial))
                exact ⟨by rw [h1.1, h2.1, h3], by rw [h1.2, h2.2, h3]⟩
              have HFa := Lib.hid fun (W : World) (bW : Below wr.heap.size wr W) => Fore_c v a Ax i d y0 W (hAw.call bW) (r0.call bW) hl0
              have HFb := Lib.hid fun (W : World) (bW : Below wr.heap.size wr W) => Fore_c v a Bx i d' _ W (hAw.call bW) (r1.call bW) hl0
              have HBa := Lib.hid fun (W : World) (bW : Below wr.heap.size wr W) => Back_c v a Ax i d y0 W (hAw.call bW) (r0.call bW) hl0
              have HBb := Lib.hid fun (W : World) (bW : Below wr.heap.size wr W) => Back_c v a Bx i d' _ W (hAw.call bW) (r1.call bW) hl0
              rw [← hsw.1] at HFb
              rw [← hsw.2] at HBb
              obtain ⟨p1, hp1⟩ : ∃ x, backA a y0 = x := ⟨_, rfl⟩
              obtain ⟨q1, hq1⟩ : ∃ x, foreA a y0 = x := ⟨_, rfl⟩
              rw [hp1] at HBa HBb
              rw [hq1] at HFa HFb
              have HCN := Lib.hid (show (AV.cells v) = #[.slice v.ca gn v.cc, .slice v.fa v.fn v.fc, .slice v.ba v.bn v.bc, .slice v.ea v.en v.ec, .slice v.ga v.gn v.gc] by unfold AV.cells; rw [show v.cn = gn by have h1 := hAw.1.c.len; change a.cls.length = v.cn at h1; rw [← h1, HAC.out, clsL_len]])
              rw [HCN.out] at HBa HBb HFa HFb
              clear hsw hp1 hq1 htw r0 r1 hAw kA hy0 hy1 hY0
              have HS := Lib.hid fun (W : World) (bW : Below wr.heap.size wr W) => (show W.cell? ⟨gA, 0, none⟩ = some (.slice v.ca gn v.cc) ∧ W.cell? ⟨gA, 1, none⟩ = some (.slice v.fa v.fn v.fc) ∧ W.cell? ⟨gA, 2, none⟩ = some (.slice v.ba v.bn v.bc) ∧ W.cell? ⟨gA, 3, none⟩ = some (.slice v.ea v.en v.ec) ∧ W.cell? ⟨gA, 4, none⟩ = some (.slice v.ga v.gn v.gc) from ⟨cell_call a0 bW, cell_call a1 bW, cell_call a2 bW, cell_call a3 bW, cell_call a4 bW⟩)
              have bb := Below.refl wr.heap.size wr
              refine wp_region_held_drew (S := fun w' => w'.cell? ⟨gA, 0, none⟩ = some (.slice v.ca gn v.cc) ∧ w'.cell? ⟨gA, 1, none⟩ = some (.slice v.fa v.fn v.fc) ∧ w'.cell? ⟨gA, 2, none⟩ = some (.slice v.ba v.bn v.bc) ∧ w'.cell? ⟨gA, 3, none⟩ = some (.slice v.ea v.en v.ec) ∧ w'.cell? ⟨gA, 4, none⟩ = some (.slice v.ga v.gn v.gc)) (by kernel_rfl) ?_ (fun hHeld => ?_)
              · exact HS.out _ (below_drewN bb 1)
              replace bb := below_drewN bb 1
              change Below _ _ wr.drew at bb
              generalize hw0 : wr.drew = W0 at hHeld bb ⊢
              clear hw0
              refine wpAnyH_take (i := 0) (v := ?_) (by simp only [List.getElem?_toArray]; rfl) (by kernel_rfl) (by kernel_rfl) (by kernel_rfl) (by exact fun _ _ _ h => h) (Or.inl ⟨by rfl, ?_⟩) (by assumption) ?_
              rotate_left 1
              · intro w hSw; (try dsimp only at hSw); go_simp; try with_reducible rfl
              try conv => arg 8; simp only [Act.put, List.setIfInBounds_toArray, List.set_cons_zero, List.set_cons_succ]
              refine wpAnyH_take (i := 1) (v := ?_) (by simp only [List.getElem?_toArray]; rfl) (by kernel_rfl) (by kernel_rfl) (by kernel_rfl) (by exact fun _ _ _ h => h) (Or.inl ⟨by rfl, ?_⟩) (by assumption) ?_
              rotate_left 1
              · intro w hSw; (try dsimp only at hSw); go_simp; try with_reducible rfl
              try conv => arg 8; simp only [Act.put, List.setIfInBounds_toArray, List.set_cons_zero, List.set_cons_succ]
              refine wpAnyH_take (i := 2) (v := ?_) (by simp only [List.getElem?_toArray]; rfl) (by kernel_rfl) (by kernel_rfl) (by kernel_rfl) (by exact fun _ _ _ h => h) (Or.inl ⟨by rfl, ?_⟩) (by assumption) ?_
              rotate_left 1
              · intro w hSw; (try dsimp only at hSw); go_simp; try with_reducible rfl
              try conv => arg 8; simp only [Act.put, List.setIfInBounds_toArray, List.set_cons_zero, List.set_cons_succ]
              refine wpAnyH_take (i := 3) (v := ?_) (by simp only [List.getElem?_toArray]; rfl) (by kernel_rfl) (by kernel_rfl) (by kernel_rfl) (by exact fun _ _ _ h => h) (Or.inl ⟨by rfl, ?_⟩) (by assumption) ?_
              rotate_left 1
              · intro w hSw; (try dsimp only at hSw); go_simp; try with_reducible rfl
              try conv => arg 8; simp only [Act.put, List.setIfInBounds_toArray, List.set_cons_zero, List.set_cons_succ]
              refine wpAnyH_take (i := 4) (v := ?_) (by simp only [List.getElem?_toArray]; rfl) (by kernel_rfl) (by kernel_rfl) (by kernel_rfl) (by exact fun _ _ _ h => h) (Or.inl ⟨by rfl, ?_⟩) (by assumption) ?_
              rotate_left 1
              · intro w hSw; (try dsimp only at hSw); go_simp; try with_reducible rfl
              try conv => arg 8; simp only [Act.put, List.setIfInBounds_toArray, List.set_cons_zero, List.set_cons_succ]
              refine wpAnyH_take (i := 5) (v := ?_) (by simp only [List.getElem?_toArray]; rfl) (by kernel_rfl) (by kernel_rfl) (by kernel_rfl) (by exact fun _ _ _ h => h) (Or.inl ⟨by rfl, ?_⟩) (by assumption) ?_
              rotate_left 1
              · intro w hSw; (try dsimp only at hSw); go_simp; try with_reducible rfl
              try conv => arg 8; simp only [Act.put, List.setIfInBounds_toArray, List.set_cons_zero, List.set_cons_succ]
              refine wpAnyH_take (i := 6) (v := ?_) (by simp only [List.getElem?_toArray]; rfl) (by kernel_rfl) (by kernel_rfl) (by kernel_rfl) (by exact fun _ _ _ h => h) (Or.inl ⟨by rfl, ?_⟩) (by assumption) ?_
              rotate_left 1
              · intro w hSw; (try dsimp only at hSw); go_simp; try with_reducible rfl
              try conv => arg 8; simp only [Act.put, List.setIfInBounds_toArray, List.set_cons_zero, List.set_cons_succ]
              refine wpAnyH_take (i := 8) (v := ?_) (by simp only [List.getElem?_toArray]; rfl) (by kernel_rfl) (by kernel_rfl) (by kernel_rfl) (by exact fun _ _ _ h => h) (Or.inl ⟨by rfl, ?_⟩) (by assumption) ?_
              rotate_left 1
              · intro w hSw; (try dsimp only at hSw); go_simp; try with_reducible rfl
              try conv => arg 8; simp only [Act.put, List.setIfInBounds_toArray, List.set_cons_zero, List.set_cons_succ]
              refine wpAnyH_take (i := 9) (v := ?_) (by simp only [List.getElem?_toArray]; rfl) (by kernel_rfl) (by kernel_rfl) (by kernel_rfl) (by exact fun _ _ _ h => h) (Or.inl ⟨by rfl, ?_⟩) (by assumption) ?_
              rotate_left 1
              · intro w hSw; (try dsimp only at hSw); go_simp; try with_reducible rfl
              try conv => arg 8; simp only [Act.put, List.setIfInBounds_toArray, List.set_cons_zero, List.set_cons_succ]
              refine wpAnyH_ready (rs := [7]) (by kernel_rfl) (by simp) ?_
              refine AllReadyH.cons (by simp only [List.getElem?_toArray]; rfl) (fun K hK => ?_) AllReadyH.nil
              refine wanted_pos (by kernel_rfl) ?_
              go_simp
              clear hHeld
              go_at_call 20
              (with_reducible refine (HFa.out _ bb).mono ?_)
              rintro e V1 ⟨rfl, bn⟩
              go_wp2_with fail
              refine hK.out _ _ ?_ (fun hHeld => ?_)
              · exact HS.out _ (bb.trans (bn.mono bb.size))
              clear hK K
              try conv => arg 8; simp only [Act.put, List.setIfInBounds_toArray, List.set_cons_zero, List.set_cons_succ]
              replace bb := bb.trans (bn.mono bb.size)
              clear bn
              refine wpAnyH_ready (rs := [10]) (by kernel_rfl) (by simp) ?_
              refine AllReadyH.cons (by simp only [List.getElem?_toArray]; rfl) (fun K hK => ?_) AllReadyH.nil
              refine wanted_pos (by kernel_rfl) ?_
              go_simp
              clear hHeld
              go_at_call 20
              (with_reducible refine (HFb.out _ bb).mono ?_)
              rintro e V2 ⟨rfl, bn⟩
              go_wp2_with fail
              refine hK.out _ _ ?_ (fun hHeld => ?_)
              · exact HS.out _ (bb.trans (bn.mono bb.size))
              clear hK K
              try conv => arg 8; simp only [Act.put, List.setIfInBounds_toArray, List.set_cons_zero, List.set_cons_succ]
              replace bb := bb.trans (bn.mono bb.size)
              clear bn
              refine wpAnyH_take (i := 11) (v := ?_) (by simp only [List.getElem?_toArray]; rfl) (by kernel_rfl) (by kernel_rfl) (by kernel_rfl) (by exact fun _ _ _ h => h) (Or.inl ⟨by rfl, ?_⟩) (by assumption) ?_
              rotate_left 1
              · intro w hSw; (try dsimp only at hSw); go_simp; try with_reducible rfl
              try conv => arg 8; simp only [Act.put, List.setIfInBounds_toArray, List.set_cons_zero, List.set_cons_succ]
              refine wpAnyH_take (i := 12) (v := ?_) (by simp only [List.getElem?_toArray]; rfl) (by kernel_rfl) (by kernel_rfl) (by kernel_rfl) (by exact fun _ _ _ h => h) (Or.inl ⟨by rfl, ?_⟩) (by assumption) ?_
              rotate_left 1
              · intro w hSw; (try dsimp only at hSw); go_simp; try with_reducible rfl
              try conv => arg 8; simp only [Act.put, List.setIfInBounds_toArray, List.set_cons_zero, List.set_cons_succ]
              refine wpAnyH_take (i := 13) (v := ?_) (by simp only [List.getElem?_toArray]; rfl) (by kernel_rfl) (by kernel_rfl) (by kernel_rfl) (by exact fun _ _ _ h => h) (Or.inl ⟨by rfl, ?_⟩) (by assumption) ?_
              rotate_left 1
              · intro w hSw; (try dsimp only at hSw); go_simp; try with_reducible rfl
              try conv => arg 8; simp only [Act.put, List.setIfInBounds_toArray, List.set_cons_zero, List.set_cons_succ]
              refine wpAnyH_take (i := 14) (v := ?_) (by simp only [List.getElem?_toArray]; rfl) (by kernel_rfl) (by kernel_rfl) (by kernel_rfl) (by exact fun _ _ _ h => h) (Or.inl ⟨by rfl, ?_⟩) (by assumption) ?_
              rotate_left 1
              · intro w hSw; (try dsimp only at hSw); go_simp; try with_reducible rfl
              try conv => arg 8; simp only [Act.put, List.setIfInBounds_toArray, List.set_cons_zero, List.set_cons_succ]
              refine wpAnyH_take (i := 16) (v := ?_) (by simp only [List.getElem?_toArray]; rfl) (by kernel_rfl) (by kernel_rfl) (by kernel_rfl) (by exact fun _ _ _ h => h) (Or.inl ⟨by rfl, ?_⟩) (by assumption) ?_
              rotate_left 1
              · intro w hSw; (try dsimp only at hSw); go_simp; try with_reducible rfl
              try conv => arg 8; simp only [Act.put, List.setIfInBounds_toArray, List.set_cons_zero, List.set_cons_succ]
              refine wpAnyH_take (i := 17) (v := ?_) (by simp only [List.getElem?_toArray]; rfl) (by kernel_rfl) (by kernel_rfl) (by kernel_rfl) (by exact fun _ _ _ h => h) (Or.inl ⟨by rfl, ?_⟩) (by assumption) ?_
              rotate_left 1
              · intro w hSw; (try dsimp only at hSw); go_simp; try with_reducible rfl
              try conv => arg 8; simp only [Act.put, List.setIfInBounds_toArray, List.set_cons_zero, List.set_cons_succ]
              refine wpAnyH_ready (rs := [15]) (by kernel_rfl) (by simp) ?_
              refine AllReadyH.cons (by simp only [List.getElem?_toArray]; rfl) (fun K hK => ?_) AllReadyH.nil
              refine wanted_pos (by kernel_rfl) ?_
              go_simp
              clear hHeld
              go_at_call 19
              (with_reducible refine (HBa.out _ bb).mono ?_)
              rintro e V3 ⟨rfl, bn⟩
              go_wp2_with fail
              refine hK.out _ _ ?_ (fun hHeld => ?_)
              · exact HS.out _ (bb.trans (bn.mono bb.size))
              clear hK K
              try conv => arg 8; simp only [Act.put, List.setIfInBounds_toArray, List.set_cons_zero, List.set_cons_succ]
              replace bb := bb.trans (bn.mono bb.size)
              clear bn
              refine wpAnyH_ready (rs := [18]) (by kernel_rfl) (by simp) ?_
              refine AllReadyH.cons (by simp only [List.getElem?_toArray]; rfl) (fun K hK => ?_) AllReadyH.nil
              refine wanted_pos (by kernel_rfl) ?_
              go_simp
              clear hHeld
              go_at_call 19
              (with_reducible refine (HBb.out _ bb).mono ?_)
              rintro e V4 ⟨rfl, bn⟩
              go_wp2_with fail
              refine hK.out _ _ ?_ (fun hHeld => ?_)
              · exact HS.out _ (bb.trans (bn.mono bb.size))
              clear hK K
              try conv => arg 8; simp only [Act.put, List.setIfInBounds_toArray, List.set_cons_zero, List.set_cons_succ]
              replace bb := bb.trans (bn.mono bb.size)
              clear bn
              refine wpAnyH_take (i := 19) (v := ?_) (by simp only [List.getElem?_toArray]; rfl) (by kernel_rfl) (by kernel_rfl) (by kernel_rfl) (by exact fun _ _ _ h => h) (Or.inl ⟨by rfl, ?_⟩) (by assumption) ?_
              rotate_left 1
              · intro w hSw; (try dsimp only at hSw); go_simp; try with_reducible rfl
              try conv => arg 8; simp only [Act.put, List.setIfInBounds_toArray, List.set_cons_zero, List.set_cons_succ]
              refine wpAnyH_take (i := 20) (v := ?_) (by simp only [List.getElem?_toArray]; rfl) (by kernel_rfl) (by kernel_rfl) (by kernel_rfl) (by exact fun _ _ _ h => h) (Or.inl ⟨by rfl, ?_⟩) (by assumption) ?_
              rotate_left 1
              · intro w hSw; (try dsimp only at hSw); go_simp; try with_reducible rfl
              try conv => arg 8; simp only [Act.put, List.setIfInBounds_toArray, List.set_cons_zero, List.set_cons_succ]
              refine wpAnyH_take (i := 21) (v := ?_) (by simp only [List.getElem?_toArray]; rfl) (by kernel_rfl) (by kernel_rfl) (by kernel_rfl) (by exact fun _ _ _ h => h) (Or.inl ⟨by rfl, ?_⟩) (by assumption) ?_
              rotate_left 1
              · intro w hSw; (try dsimp only at hSw); go_simp; try with_reducible rfl
              try conv => arg 8; simp only [Act.put, List.setIfInBounds_toArray, List.set_cons_zero, List.set_cons_succ]
              refine wpAnyH_take (i := 22) (v := ?_) (by simp only [List.getElem?_toArray]; rfl) (by kernel_rfl) (by kernel_rfl) (by kernel_rfl) (by exact fun _ _ _ h => h) (Or.inl ⟨by rfl, ?_⟩) (by assumption) ?_
              rotate_left 1
              · intro w hSw; (try dsimp only at hSw); go_simp; try with_reducible rfl
              try conv => arg 8; simp only [Act.put, List.setIfInBounds_toArray, List.set_cons_zero, List.set_cons_succ]
              refine wpAnyH_take (i := 23) (v := ?_) (by simp only [List.getElem?_toArray]; rfl) (by kernel_rfl) (by kernel_rfl) (by kernel_rfl) (by exact fun _ _ _ h => h) (Or.inl ⟨by rfl, ?_⟩) (by assumption) ?_
              rotate_left 1
              · intro w hSw; (try dsimp only at hSw); go_simp; try with_reducible rfl
              try conv => arg 8; simp only [Act.put, List.setIfInBounds_toArray, List.set_cons_zero, List.set_cons_succ]
              refine wpAnyH_done (by kernel_rfl) ?_ _
              clear HS hHeld a0 a1 a2 a3 a4
              replace bwr := bwr.trans (bb.mono bwr.size)
              go_wp2
              go_ret
              exact ⟨rfl, bwr⟩


          · have inn : ¬ (i : Int) < (n1 : Int) := by omega
            have htk : l1.take i = l1.take 10 := by rw [List.take_of_length_le (show l1.length ≤ 10 by rw [L1.out]; omega), List.take_of_length_le (show l1.length ≤ i by rw [L1.out]; omega)]
            rw [htk] at htw
            have hy0 := modG_ok hgn0 (l1.take 10)
            have hy1 := swapG_ok (p := (p : Int)) (q := (q : Int)) (n := gn) ⟨by omega, by omega⟩ hy0
            obtain ⟨y0, hY0⟩ : ∃ y, modG gn (l1.take 10) = y := ⟨_, rfl⟩
            rw [hY0] at hy0 hy1 htw
            have hl0 : i ≤ 9223372036854775807 := by have := htw.o0.cap; omega
            have bwr := below_trans2 BB.out htw.bl
            have kA := KAB.out.below htw.bl KAB.out.lt
            have hAw := HAB.out.call htw.bl
            have r0 := htw.o0.rd
            have r1 := htw.o1.rd
            have a0 := box_cells kA 0 rfl
            have a1 := box_cells kA 1 rfl
            have a2 := box_cells kA 2 rfl
            have a3 := box_cells kA 3 rfl
            have a4 := box_cells kA 4 rfl
            go_upto_region 30 with fail
            clear yx hi10 hin hlt inn
            have hsw : foreA a y0 = foreA a (y0.map (swapG p q)) ∧ backA a y0 = backA a (y0.map (swapG p q)) := by
              have h1 := built_says HAU.out y0 hy0
              have h2 := built_says HAU.out (y0.map (swapG p q)) hy1
              have h3 := says_swap (rs := madeR rs) (HSA.out (by first | rfl | trivial))
              exact ⟨by rw [h1.1, h2.1, h3], by rw [h1.2, h2.2, h3]⟩
            have HFa := Lib.hid fun (W : World) (bW : Below wr.heap.size wr W) => Fore_c v a Ax i d y0 W (hAw.call bW) (r0.call bW) hl0
            have HFb := Lib.hid fun (W : World) (bW : Below wr.heap.size wr W) => Fore_c v a Bx i d' _ W (hAw.call bW) (r1.call bW) hl0
            have HBa := Lib.hid fun (W : World) (bW : Below wr.heap.size wr W) => Back_c v a Ax i d y0 W (hAw.call bW) (r0.call bW) hl0
            have HBb := Lib.hid fun (W : World) (bW : Below wr.heap.size wr W) => Back_c v a Bx i d' _ W (hAw.call bW) (r1.call bW) hl0
            rw [← hsw.1] at HFb
            rw [← hsw.2] at HBb
            obtain ⟨p1, hp1⟩ : ∃ x, backA a y0 = x := ⟨_, rfl⟩
            obtain ⟨q1, hq1⟩ : ∃ x, foreA a y0 = x := ⟨_, rfl⟩
            rw [hp1] at HBa HBb
            rw [hq1] at HFa HFb
            have HCN := Lib.hid (show (AV.cells v) = #[.slice v.ca gn v.cc, .slice v.fa v.fn v.fc, .slice v.ba v.bn v.bc, .slice v.ea v.en v.ec, .slice v.ga v.gn v.gc] by unfold AV.cells; rw [show v.cn = gn by have h1 := hAw.1.c.len; change a.cls.length = v.cn at h1; rw [← h1, HAC.out, clsL_len]])
            rw [HCN.out] at HBa HBb HFa HFb
            clear hsw hp1 hq1 htw r0 r1 hAw kA hy0 hy1 hY0
            have HS := Lib.hid fun (W : World) (bW : Below wr.heap.size wr W) => (show W.cell? ⟨gA, 0, none⟩ = some (.slice v.ca gn v.cc) ∧ W.cell? ⟨gA, 1, none⟩ = some (.slice v.fa v.fn v.fc) ∧ W.cell? ⟨gA, 2, none⟩ = some (.slice v.ba v.bn v.bc) ∧ W.cell? ⟨gA, 3, none⟩ = some (.slice v.ea v.en v.ec) ∧ W.cell? ⟨gA, 4, none⟩ = some (.slice v.ga v.gn v.gc) from ⟨cell_call a0 bW, cell_call a1 bW, cell_call a2 bW, cell_call a3 bW, cell_call a4 bW⟩)
            have bb := Below.refl wr.heap.size wr
            refine wp_region_held_drew (S := fun w' => w'.cell? ⟨gA, 0, none⟩ = some (.slice v.ca gn v.cc) ∧ w'.cell? ⟨gA, 1, none⟩ = some (.slice v.fa v.fn v.fc) ∧ w'.cell? ⟨gA, 2, none⟩ = some (.slice v.ba v.bn v.bc) ∧ w'.cell? ⟨gA, 3, none⟩ = some (.slice v.ea v.en v.ec) ∧ w'.cell? ⟨gA, 4, none⟩ = some (.slice v.ga v.gn v.gc)) (by kernel_rfl) ?_ (fun hHeld => ?_)
            · exact HS.out _ (below_drewN bb 1)
            replace bb := below_drewN bb 1
            change Below _ _ wr.drew at bb
            generalize hw0 : wr.drew = W0 at hHeld bb ⊢
            clear hw0
            refine wpAnyH_take (i := 0) (v := ?_) (by simp only [List.getElem?_toArray]; rfl) (by kernel_rfl) (by kernel_rfl) (by kernel_rfl) (by exact fun _ _ _ h => h) (Or.inl ⟨by rfl, ?_⟩) (by assumption) ?_
            rotate_left 1
            · intro w hSw; (try dsimp only at hSw); go_simp; try with_reducible rfl
            try conv => arg 8; simp only [Act.put, List.setIfInBounds_toArray, List.set_cons_zero, List.set_cons_succ]
            refine wpAnyH_take (i := 1) (v := ?_) (by simp only [List.getElem?_toArray]; rfl) (by kernel_rfl) (by kernel_rfl) (by kernel_rfl) (by exact fun _ _ _ h => h) (Or.inl ⟨by rfl, ?_⟩) (by assumption) ?_
            rotate_left 1
            · intro w hSw; (try dsimp only at hSw); go_simp; try with_reducible rfl
            try conv => arg 8; simp only [Act.put, List.setIfInBounds_toArray, List.set_cons_zero, List.set_cons_succ]
            refine wpAnyH_take (i := 2) (v := ?_) (by simp only [List.getElem?_toArray]; rfl) (by kernel_rfl) (by kernel_rfl) (by kernel_rfl) (by exact fun _ _ _ h => h) (Or.inl ⟨by rfl, ?_⟩) (by assumption) ?_
            rotate_left 1
            · intro w hSw; (try dsimp only at hSw); go_simp; try with_reducible rfl
            try conv => arg 8; simp only [Act.put, List.setIfInBounds_toArray, List.set_cons_zero, List.set_cons_succ]
            refine wpAnyH_take (i := 3) (v := ?_) (by simp only [List.getElem?_toArray]; rfl) (by kernel_rfl) (by kernel_rfl) (by kernel_rfl) (by exact fun _ _ _ h => h) (Or.inl ⟨by rfl, ?_⟩) (by assumption) ?_
            rotate_left 1
            · intro w hSw; (try dsimp only at hSw); go_simp; try with_reducible rfl
            try conv => arg 8; simp only [Act.put, List.setIfInBounds_toArray, List.set_cons_zero, List.set_cons_succ]
            refine wpAnyH_take (i := 4) (v := ?_) (by simp only [List.getElem?_toArray]; rfl) (by kernel_rfl) (by kernel_rfl) (by kernel_rfl) (by exact fun _ _ _ h => h) (Or.inl ⟨by rfl, ?_⟩) (by assumption) ?_
            rotate_left 1
            · intro w hSw; (try dsimp only at hSw); go_simp; try with_reducible rfl
            try conv => arg 8; simp only [Act.put, List.setIfInBounds_toArray, List.set_cons_zero, List.set_cons_succ]
            refine wpAnyH_take (i := 5) (v := ?_) (by simp only [List.getElem?_toArray]; rfl) (by kernel_rfl) (by kernel_rfl) (by kernel_rfl) (by exact fun _ _ _ h => h) (Or.inl ⟨by rfl, ?_⟩) (by assumption) ?_
            rotate_left 1
            · intro w hSw; (try dsimp only at hSw); go_simp; try with_reducible rfl
            try conv => arg 8; simp only [Act.put, List.setIfInBounds_toArray, List.set_cons_zero, List.set_cons_succ]
            refine wpAnyH_take (i := 6) (v := ?_) (by simp only [List.getElem?_toArray]; rfl) (by kernel_rfl) (by kernel_rfl) (by kernel_rfl) (by exact fun _ _ _ h => h) (Or.inl ⟨by rfl, ?_⟩) (by assumption) ?_
            rotate_left 1
            · intro w hSw; (try dsimp only at hSw); go_simp; try with_reducible rfl
            try conv => arg 8; simp only [Act.put, List.setIfInBounds_toArray, List.set_cons_zero, List.set_cons_succ]
            refine wpAnyH_take (i := 8) (v := ?_) (by simp only [List.getElem?_toArray]; rfl) (by kernel_rfl) (by kernel_rfl) (by kernel_rfl) (by exact fun _ _ _ h => h) (Or.inl ⟨by rfl, ?_⟩) (by assumption) ?_
            rotate_left 1
            · intro w hSw; (try dsimp only at hSw); go_simp; try with_reducible rfl
            try conv => arg 8; simp only [Act.put, List.setIfInBounds_toArray, List.set_cons_zero, List.set_cons_succ]
            refine wpAnyH_take (i := 9) (v := ?_) (by simp only [List.getElem?_toArray]; rfl) (by kernel_rfl) (by kernel_rfl) (by kernel_rfl) (by exact fun _ _ _ h => h) (Or.inl ⟨by rfl, ?_⟩) (by assumption) ?_
            rotate_left 1
            · intro w hSw; (try dsimp only at hSw); go_simp; try with_reducible rfl
            try conv => arg 8; simp only [Act.put, List.setIfInBounds_toArray, List.set_cons_zero, List.set_cons_succ]
            refine wpAnyH_ready (rs := [7]) (by kernel_rfl) (by simp) ?_
            refine AllReadyH.cons (by simp only [List.getElem?_toArray]; rfl) (fun K hK => ?_) AllReadyH.nil
            refine wanted_pos (by kernel_rfl) ?_
            go_simp
            clear hHeld
            go_at_call 20
            (with_reducible refine (HFa.out _ bb).mono ?_)
            rintro e V1 ⟨rfl, bn⟩
            go_wp2_with fail
            refine hK.out _ _ ?_ (fun hHeld => ?_)
            · exact HS.out _ (bb.trans (bn.mono bb.size))
            clear hK K
            try conv => arg 8; simp only [Act.put, List.setIfInBounds_toArray, List.set_cons_zero, List.set_cons_succ]
            replace bb := bb.trans (bn.mono bb.size)
            clear bn
            refine wpAnyH_ready (rs := [10]) (by kernel_rfl) (by simp) ?_
            refine AllReadyH.cons (by simp only [List.getElem?_toArray]; rfl) (fun K hK => ?_) AllReadyH.nil
            refine wanted_pos (by kernel_rfl) ?_
            go_simp
            clear hHeld
            go_at_call 20
            (with_reducible refine (HFb.out _ bb).mono ?_)
            rintro e V2 ⟨rfl, bn⟩
            go_wp2_with fail
            refine hK.out _ _ ?_ (fun hHeld => ?_)
            · exact HS.out _ (bb.trans (bn.mono bb.size))
            clear hK K
            try conv => arg 8; simp only [Act.put, List.setIfInBounds_toArray, List.set_cons_zero, List.set_cons_succ]
            replace bb := bb.trans (bn.mono bb.size)
            clear bn
            refine wpAnyH_take (i := 11) (v := ?_) (by simp only [List.getElem?_toArray]; rfl) (by kernel_rfl) (by kernel_rfl) (by kernel_rfl) (by exact fun _ _ _ h => h) (Or.inl ⟨by rfl, ?_⟩) (by assumption) ?_
            rotate_left 1
            · intro w hSw; (try dsimp only at hSw); go_simp; try with_reducible rfl
            try conv => arg 8; simp only [Act.put, List.setIfInBounds_toArray, List.set_cons_zero, List.set_cons_succ]
            refine wpAnyH_take (i := 12) (v := ?_) (by simp only [List.getElem?_toArray]; rfl) (by kernel_rfl) (by kernel_rfl) (by kernel_rfl) (by exact fun _ _ _ h => h) (Or.inl ⟨by rfl, ?_⟩) (by assumption) ?_
            rotate_left 1
            · intro w hSw; (try dsimp only at hSw); go_simp; try with_reducible rfl
            try conv => arg 8; simp only [Act.put, List.setIfInBounds_toArray, List.set_cons_zero, List.set_cons_succ]
            refine wpAnyH_take (i := 13) (v := ?_) (by simp only [List.getElem?_toArray]; rfl) (by kernel_rfl) (by kernel_rfl) (by kernel_rfl) (by exact fun _ _ _ h => h) (Or.inl ⟨by rfl, ?_⟩) (by assumption) ?_
            rotate_left 1
            · intro w hSw; (try dsimp only at hSw); go_simp; try with_reducible rfl
            try conv => arg 8; simp only [Act.put, List.setIfInBounds_toArray, List.set_cons_zero, List.set_cons_succ]
            refine wpAnyH_take (i := 14) (v := ?_) (by simp only [List.getElem?_toArray]; rfl) (by kernel_rfl) (by kernel_rfl) (by kernel_rfl) (by exact fun _ _ _ h => h) (Or.inl ⟨by rfl, ?_⟩) (by assumption) ?_
            rotate_left 1
            · intro w hSw; (try dsimp only at hSw); go_simp; try with_reducible rfl
            try conv => arg 8; simp only [Act.put, List.setIfInBounds_toArray, List.set_cons_zero, List.set_cons_succ]
            refine wpAnyH_take (i := 16) (v := ?_) (by simp only [List.getElem?_toArray]; rfl) (by kernel_rfl) (by kernel_rfl) (by kernel_rfl) (by exact fun _ _ _ h => h) (Or.inl ⟨by rfl, ?_⟩) (by assumption) ?_
            rotate_left 1
            · intro w hSw; (try dsimp only at hSw); go_simp; try with_reducible rfl
            try conv => arg 8; simp only [Act.put, List.setIfInBounds_toArray, List.set_cons_zero, List.set_cons_succ]
            refine wpAnyH_take (i := 17) (v := ?_) (by simp only [List.getElem?_toArray]; rfl) (by kernel_rfl) (by kernel_rfl) (by kernel_rfl) (by exact fun _ _ _ h => h) (Or.inl ⟨by rfl, ?_⟩) (by assumption) ?_
            rotate_left 1
            · intro w hSw; (try dsimp only at hSw); go_simp; try with_reducible rfl
            try conv => arg 8; simp only [Act.put, List.setIfInBounds_toArray, List.set_cons_zero, List.set_cons_succ]
            refine wpAnyH_ready (rs := [15]) (by kernel_rfl) (by simp) ?_
            refine AllReadyH.cons (by simp only [List.getElem?_toArray]; rfl) (fun K hK => ?_) AllReadyH.nil
            refine wanted_pos (by kernel_rfl) ?_
            go_simp
            clear hHeld
            go_at_call 19
            (with_reducible refine (HBa.out _ bb).mono ?_)
            rintro e V3 ⟨rfl, bn⟩
            go_wp2_with fail
            refine hK.out _ _ ?_ (fun hHeld => ?_)
            · exact HS.out _ (bb.trans (bn.mono bb.size))
            clear hK K
            try conv => arg 8; simp only [Act.put, List.setIfInBounds_toArray, List.set_cons_zero, List.set_cons_succ]
            replace bb := bb.trans (bn.mono bb.size)
            clear bn
            refine wpAnyH_ready (rs := [18]) (by kernel_rfl) (by simp) ?_
            refine AllReadyH.cons (by simp only [List.getElem?_toArray]; rfl) (fun K hK => ?_) AllReadyH.nil
            refine wanted_pos (by kernel_rfl) ?_
            go_simp
            clear hHeld
            go_at_call 19
            (with_reducible refine (HBb.out _ bb).mono ?_)
            rintro e V4 ⟨rfl, bn⟩
            go_wp2_with fail
            refine hK.out _ _ ?_ (fun hHeld => ?_)
            · exact HS.out _ (bb.trans (bn.mono bb.size))
            clear hK K
            try conv => arg 8; simp only [Act.put, List.setIfInBounds_toArray, List.set_cons_zero, List.set_cons_succ]
            replace bb := bb.trans (bn.mono bb.size)
            clear bn
            refine wpAnyH_take (i := 19) (v := ?_) (by simp only [List.getElem?_toArray]; rfl) (by kernel_rfl) (by kernel_rfl) (by kernel_rfl) (by exact fun _ _ _ h => h) (Or.inl ⟨by rfl, ?_⟩) (by assumption) ?_
            rotate_left 1
            · intro w hSw; (try dsimp only at hSw); go_simp; try with_reducible rfl
            try conv => arg 8; simp only [Act.put, List.setIfInBounds_toArray, List.set_cons_zero, List.set_cons_succ]
            refine wpAnyH_take (i := 20) (v := ?_) (by simp only [List.getElem?_toArray]; rfl) (by kernel_rfl) (by kernel_rfl) (by kernel_rfl) (by exact fun _ _ _ h => h) (Or.inl ⟨by rfl, ?_⟩) (by assumption) ?_
            rotate_left 1
            · intro w hSw; (try dsimp only at hSw); go_simp; try with_reducible rfl
            try conv => arg 8; simp only [Act.put, List.setIfInBounds_toArray, List.set_cons_zero, List.set_cons_succ]
            refine wpAnyH_take (i := 21) (v := ?_) (by simp only [List.getElem?_toArray]; rfl) (by kernel_rfl) (by kernel_rfl) (by kernel_rfl) (by exact fun _ _ _ h => h) (Or.inl ⟨by rfl, ?_⟩) (by assumption) ?_
            rotate_left 1
            · intro w hSw; (try dsimp only at hSw); go_simp; try with_reducible rfl
            try conv => arg 8; simp only [Act.put, List.setIfInBounds_toArray, List.set_cons_zero, List.set_cons_succ]
            refine wpAnyH_take (i := 22) (v := ?_) (by simp only [List.getElem?_toArray]; rfl) (by kernel_rfl) (by kernel_rfl) (by kernel_rfl) (by exact fun _ _ _ h => h) (Or.inl ⟨by rfl, ?_⟩) (by assumption) ?_
            rotate_left 1
            · intro w hSw; (try dsimp only at hSw); go_simp; try with_reducible rfl
            try conv => arg 8; simp only [Act.put, List.setIfInBounds_toArray, List.set_cons_zero, List.set_cons_succ]
            refine wpAnyH_take (i := 23) (v := ?_) (by simp only [List.getElem?_toArray]; rfl) (by kernel_rfl) (by kernel_rfl) (by kernel_rfl) (by exact fun _ _ _ h => h) (Or.inl ⟨by rfl, ?_⟩) (by assumption) ?_
            rotate_left 1
            · intro w hSw; (try dsimp only at hSw); go_simp; try with_reducible rfl
            try conv => arg 8; simp only [Act.put, List.setIfInBounds_toArray, List.set_cons_zero, List.set_cons_succ]
            refine wpAnyH_done (by kernel_rfl) ?_ _
            clear HS hHeld a0 a1 a2 a3 a4
            replace bwr := bwr.trans (bb.mono bwr.size)
            go_wp2
            go_ret
            exact ⟨rfl, bwr⟩


      · obtain rfl : sb = false := by
          cases sb with
          | false => rfl
          | true => exact absurd (HXY.out.1 rfl) hxy
        have hb1 : ((cx : Int) == (cy : Int)) = false := by simp; exact hxy
        have hb2 : decide ((cx : Int) = (cy : Int)) = false := by simp; exact hxy
        have HS := Lib.hid fun (W : World) (bW : Below wr.heap.size wr W) => (show W.cell? ⟨gA, 0, none⟩ = some (.slice (some ⟨bc, oc, none⟩) gn v.cc) ∧ W.cell? ⟨bc, oc + p, none⟩ = some (.int .i64 cx) ∧ W.cell? ⟨bc, oc + q, none⟩ = some (.int .i64 cy) from ⟨cell_call a0 bW, cell_call y1 bW, cell_call y2 bW⟩)
        have bb := Below.refl wr.heap.size wr
        refine wp_region_held_drew (S := fun w' => w'.cell? ⟨gA, 0, none⟩ = some (.slice (some ⟨bc, oc, none⟩) gn v.cc) ∧ w'.cell? ⟨bc, oc + p, none⟩ = some (.int .i64 cx) ∧ w'.cell? ⟨bc, oc + q, none⟩ = some (.int .i64 cy)) (by kernel_rfl) ?_ (fun hHeld => ?_)
        · exact HS.out _ (below_drewN bb 1)
        replace bb := below_drewN bb 1
        change Below _ _ wr.drew at bb
        generalize hw0 : wr.drew = W0 at hHeld bb ⊢
        clear hw0
        refine wpAnyH_take (i := 0) (v := ?_) (by simp only [List.getElem?_toArray]; rfl) (by kernel_rfl) (by kernel_rfl) (by kernel_rfl) (by exact fun _ _ _ h => h) (Or.inl ⟨by rfl, ?_⟩) (by assumption) ?_
        rotate_left 1
        · intro w hSw; (try dsimp only at hSw); go_simp; try with_reducible rfl
        try conv => arg 8; simp only [Act.put, List.setIfInBounds_toArray, List.set_cons_zero, List.set_cons_succ]
        refine wpAnyH_take (i := 1) (v := ?_) (by simp only [List.getElem?_toArray]; rfl) (by kernel_rfl) (by kernel_rfl) (by kernel_rfl) (by exact fun _ _ _ h => h) (Or.inl ⟨by rfl, ?_⟩) (by assumption) ?_
        rotate_left 1
        · intro w hSw; (try dsimp only at hSw); go_simp; try with_reducible rfl
        try conv => arg 8; simp only [Act.put, List.setIfInBounds_toArray, List.set_cons_zero, List.set_cons_succ]
        refine wpAnyH_take (i := 2) (v := ?_) (by simp only [List.getElem?_toArray]; rfl) (by kernel_rfl) (by kernel_rfl) (by kernel_rfl) (by exact fun _ _ _ h => h) (Or.inl ⟨by rfl, ?_⟩) (by assumption) ?_
        rotate_left 1
        · intro w hSw; (try dsimp only at hSw); go_simp; try with_reducible rfl
        try conv => arg 8; simp only [Act.put, List.setIfInBounds_toArray, List.set_cons_zero, List.set_cons_succ]
        refine wpAnyH_take (i := 3) (v := ?_) (by simp only [List.getElem?_toArray]; rfl) (by kernel_rfl) (by kernel_rfl) (by kernel_rfl) (by exact fun _ _ _ h => h) (Or.inl ⟨by rfl, ?_⟩) (by assumption) ?_
        rotate_left 1
        · intro w hSw; (try dsimp only at hSw); go_simp; try with_reducible rfl
        try conv => arg 8; simp only [Act.put, List.setIfInBounds_toArray, List.set_cons_zero, List.set_cons_succ]
        refine wpAnyH_take (i := 4) (v := ?_) (by simp only [List.getElem?_toArray]; rfl) (by kernel_rfl) (by kernel_rfl) (by kernel_rfl) (by exact fun _ _ _ h => h) (Or.inl ⟨by rfl, ?_⟩) (by assumption) ?_
        rotate_left 1
        · intro w hSw; (try dsimp only at hSw); go_simp; try with_reducible rfl
        try conv => arg 8; simp only [Act.put, List.setIfInBounds_toArray, List.set_cons_zero, List.set_cons_succ]
        refine wpAnyH_take (i := 5) (v := ?_) (by simp only [List.getElem?_toArray]; rfl) (by kernel_rfl) (by kernel_rfl) (by kernel_rfl) (by exact fun _ _ _ h => h) (Or.inl ⟨by rfl, ?_⟩) (by assumption) ?_
        rotate_left 1
        · intro w hSw; (try dsimp only at hSw); go_simp; try with_reducible rfl
        try conv => arg 8; simp only [Act.put, List.setIfInBounds_toArray, List.set_cons_zero, List.set_cons_succ]
        refine wpAnyH_take (i := 6) (v := ?_) (by simp only [List.getElem?_toArray]; rfl) (by kernel_rfl) (by kernel_rfl) (by kernel_rfl) (by exact fun _ _ _ h => h) (Or.inl ⟨by rfl, ?_⟩) (by assumption) ?_
        rotate_left 1
        · intro w hSw; (try dsimp only at hSw); go_simp; try with_reducible rfl
        try conv => arg 8; simp only [Act.put, List.setIfInBounds_toArray, List.set_cons_zero, List.set_cons_succ]
        refine wpAnyH_take (i := 7) (v := ?_) (by simp only [List.getElem?_toArray]; rfl) (by kernel_rfl) (by kernel_rfl) (by kernel_rfl) (by exact fun _ _ _ h => h) (Or.inl ⟨by rfl, ?_⟩) (by assumption) ?_
        rotate_left 1
        · intro w hSw; (try dsimp only at hSw); go_simp; try with_reducible rfl
        try conv => arg 8; simp only [Act.put, List.setIfInBounds_toArray, List.set_cons_zero, List.set_cons_succ]
        refine wpAnyH_take (i := 8) (v := ?_) (by simp only [List.getElem?_toArray]; rfl) (by kernel_rfl) (by kernel_rfl) (by kernel_rfl) (by exact fun _ _ _ h => h) (Or.inl ⟨by rfl, ?_⟩) (by assumption) ?_
        rotate_left 1
        · intro w hSw; (try dsimp only at hSw); go_simp; try with_reducible rfl
        try conv => arg 8; simp only [Act.put, List.setIfInBounds_toArray, List.set_cons_zero, List.set_cons_succ]
        refine wpAnyH_take (i := 9) (v := ?_) (by simp only [List.getElem?_toArray]; rfl) (by kernel_rfl) (by kernel_rfl) (by kernel_rfl) (by exact fun _ _ _ h => h) (Or.inl ⟨by rfl, ?_⟩) (by assumption) ?_
        rotate_left 1
        · intro w hSw; (try dsimp only at hSw); go_simp; try with_reducible rfl
        try conv => arg 8; simp only [Act.put, List.setIfInBounds_toArray, List.set_cons_zero, List.set_cons_succ]
        refine wpAnyH_take (i := 10) (v := ?_) (by simp only [List.getElem?_toArray]; rfl) (by kernel_rfl) (by kernel_rfl) (by kernel_rfl) (by exact fun _ _ _ h => h) (Or.inl ⟨by rfl, ?_⟩) (by assumption) ?_
        rotate_left 1
        · intro w hSw; (try dsimp only at hSw); go_simp; try with_reducible rfl
        try conv => arg 8; simp only [Act.put, List.setIfInBounds_toArray, List.set_cons_zero, List.set_cons_succ]
        refine wpAnyH_take (i := 11) (v := ?_) (by simp only [List.getElem?_toArray]; rfl) (by kernel_rfl) (by kernel_rfl) (by kernel_rfl) (by exact fun _ _ _ h => h) (Or.inl ⟨by rfl, ?_⟩) (by assumption) ?_
        rotate_left 1
        · intro w hSw; (try dsimp only at hSw); go_simp; try with_reducible rfl
        try conv => arg 8; simp only [Act.put, List.setIfInBounds_toArray, List.set_cons_zero, List.set_cons_succ]
        refine wpAnyH_take (i := 12) (v := ?_) (by simp only [List.getElem?_toArray]; rfl) (by kernel_rfl) (by kernel_rfl) (by kernel_rfl) (by exact fun _ _ _ h => h) (Or.inl ⟨by rfl, ?_⟩) (by assumption) ?_
        rotate_left 1
        · intro w hSw; (try dsimp only at hSw); go_simp; try with_reducible rfl
        try conv => arg 8; simp only [Act.put, List.setIfInBounds_toArray, List.set_cons_zero, List.set_cons_succ]
        refine wpAnyH_done (by kernel_rfl) ?_ _
        replace bz := bz.trans (bb.mono bz.size)
        clear HS hHeld y1 y2 a0 bb
        have hBt := below_trans2 B5.out bz
        have kX := KX.out.below bz KX.out.lt
        have kF := KF.out.below bz KF.out.lt
        have kA := KA.out.below bz KA.out.lt
        have hAw := HAA.out.call bz
        go_upto_region 20 with fail
        obtain ⟨wB, hwB⟩ : ∃ wB : World, wB = W0 := ⟨_, rfl⟩
        rw [← hwB] at hBt kX kF kA hAw bz
        try rw [← hwB]
        clear hwB
        have KXB := Lib.hid kX; have KFB := Lib.hid kF; have KAB := Lib.hid kA; have HAB := Lib.hid hAw; have BB := Lib.hid hBt
        clear hBt kX kF kA hAw bz KX KF KA HAA HFF HRR Z2 LQ
        have htw : Two wB ((wB.alloc (.cells #[] 3)).alloc (.cells #[] 3)) (some ⟨wB.heap.size, 0, none⟩) 0 0 (modG gn (l1.take 0)) (some ⟨wB.heap.size + 1, 0, none⟩) 0 0 ((modG gn (l1.take 0)).map (swapG p q)) := by
          have h2 := Ow.empty 3 1 (wB.alloc (.cells #[] 3)) wB.heap.size (by rw [World.size_alloc]; omega)
          rw [World.size_alloc] at h2
          exact ⟨below_lit _ _ (below_lit _ _ (Below.refl _ _) _) _, (Ow.empty 3 1 wB wB.heap.size (Nat.le_refl _)).alloc _, h2, fun b e1 e2 => by
            injection e1 with e1; injection e2 with e2
            have e1' : wB.heap.size = b := e1
            have e2' : wB.heap.size + 1 = b := e2
            omega⟩
        go_upto_region 23 with fail
        generalize (wB.alloc (.cells #[] 3)).alloc (.cells #[] 3) = w8 at *
        go_loopw [18, 19, 20] (fun ov tv iv wr => ∃ (i : Nat) (Ax : Option Addr) (d : Nat) (Bx : Option Addr) (d' : Nat), i ≤ 10 ∧ i ≤ n1 ∧ iv = .int .i64 i ∧ ov = .slice Ax i d ∧ tv = .slice Bx i d' ∧ Two wB wr Ax i d (modG gn (l1.take i)) Bx i d' ((modG gn (l1.take i)).map (swapG p q))) (fun _ _ iv _ => n1 - (intOf iv).toNat)
        case atStart => exact ⟨0, _, _, _, _, by omega, by omega, rfl, rfl, rfl, htw⟩
        case round =>
          clear htw
          obtain ⟨i, Ax, d, Bx, d', hi10, hin, rfl, rfl, rfl, htw⟩ := hrel
          have yx := box_cells (KXB.out.below htw.bl KXB.out.lt) 7 rfl
          by_cases hlt : i < n1
          · have inn : (i : Int) < (n1 : Int) := by omega
            by_cases hlt10 : i < 10
            · have i10 : (i : Int) < 10 := by omega
              have iz : (0 : Int) ≤ (i : Int) := by omega
              obtain ⟨x, hx⟩ := at_some l1 i (by rw [L1.out]; omega)
              obtain ⟨ba, oa, rfl, hba, hcc⟩ := (HR1.out w (Below.refl _ _)).pos (show 0 < n1 by omega)
              obtain ⟨cs, rfl, hcc2⟩ := hcc i x hx
              have bwr := below_trans2 BB.out htw.bl
              have xe := (bwr.cell (p := ⟨ba, oa + i * 1 + 0, none⟩) hba).trans (hcc2 0 _ rfl)
              rw [Nat.mul_one, Nat.add_zero] at xe
              change ba < w.heap.size at hba
              have HMG := Lib.hid (modG_succ gn hx)
              have HMS := Lib.hid (swap_succ gn hx p q)
              obtain ⟨z, hz⟩ : ∃ z : Int, x % 65536 % (gn : Int) = z := ⟨_, rfl⟩
              have e1 := and65535 x
              obtain ⟨z0, hz0⟩ : ∃ z0 : Nat, x % 65536 = (z0 : Int) := ⟨(x % 65536).toNat, by omega⟩
              rw [hz0] at e1 hz
              have e2 : (z0 : Int).tmod (gn : Int) = z := by rw [Int.tmod_eq_emod_of_nonneg (by omega)]; exact hz
              rw [hz0, hz] at HMG HMS
              have ez2 : ¬ (gn = 0) := by omega
              have yf := box_cells (KFB.out.below htw.bl KFB.out.lt) 1 rfl
              clear hcc hcc2 hx hz hz0 bwr
              go_upto_region 25 with fail
              have HS := Lib.hid fun (W : World) (bW : Below wr.heap.size wr W) => (show W.cell? ⟨w.heap.size, 7, none⟩ = some (.slice (some ⟨ba, oa, none⟩) n1 c1) ∧ W.cell? ⟨ba, oa + i, none⟩ = some (.int .i64 x) ∧ W.cell? ⟨gF, 1, none⟩ = some (.slice f.ga gn f.gc) from ⟨cell_call yx bW, cell_call xe bW, cell_call yf bW⟩)
              have bb := Below.refl wr.heap.size wr
              refine wp_region_held_drew (S := fun w' => w'.cell? ⟨w.heap.size, 7, none⟩ = some (.slice (some ⟨ba, oa, none⟩) n1 c1) ∧ w'.cell? ⟨ba, oa + i, none⟩ = some (.int .i64 x) ∧ w'.cell? ⟨gF, 1, none⟩ = some (.slice f.ga gn f.gc)) (by kernel_rfl) ?_ (fun hHeld => ?_)
              · exact HS.out _ (below_drewN bb 1)
              replace bb := below_drewN bb 1
              change Below _ _ wr.drew at bb
              generalize hw0 : wr.drew = W0 at hHeld bb ⊢
              clear hw0
              refine wpAnyH_take (i := 0) (v := ?_) (by simp only [List.getElem?_toArray]; rfl) (by kernel_rfl) (by kernel_rfl) (by kernel_rfl) (by exact fun _ _ _ h => h) (Or.inl ⟨by rfl, ?_⟩) (by assumption) ?_
              rotate_left 1
              · intro w hSw; (try dsimp only at hSw); go_simp; try with_reducible rfl
              try conv => arg 8; simp only [Act.put, List.setIfInBounds_toArray, List.set_cons_zero, List.set_cons_succ]
              refine wpAnyH_take (i := 1) (v := ?_) (by simp only [List.getElem?_toArray]; rfl) (by kernel_rfl) (by kernel_rfl) (by kernel_rfl) (by exact fun _ _ _ h => h) (Or.inl ⟨by rfl, ?_⟩) (by assumption) ?_
              rotate_left 1
              · intro w hSw; (try dsimp only at hSw); go_simp; try with_reducible rfl
              try conv => arg 8; simp only [Act.put, List.setIfInBounds_toArray, List.set_cons_zero, List.set_cons_succ]
              refine wpAnyH_take (i := 2) (v := ?_) (by simp only [List.getElem?_toArray]; rfl) (by kernel_rfl) (by kernel_rfl) (by kernel_rfl) (by exact fun _ _ _ h => h) (Or.inl ⟨by rfl, ?_⟩) (by assumption) ?_
              rotate_left 1
              · intro w hSw; (try dsimp only at hSw); go_simp; try with_reducible rfl
              try conv => arg 8; simp only [Act.put, List.setIfInBounds_toArray, List.set_cons_zero, List.set_cons_succ]
              refine wpAnyH_take (i := 3) (v := ?_) (by simp only [List.getElem?_toArray]; rfl) (by kernel_rfl) (by kernel_rfl) (by kernel_rfl) (by exact fun _ _ _ h => h) (Or.inl ⟨by rfl, ?_⟩) (by assumption) ?_
              rotate_left 1
              · intro w hSw; (try dsimp only at hSw); go_simp; try with_reducible rfl
              try conv => arg 8; simp only [Act.put, List.setIfInBounds_toArray, List.set_cons_zero, List.set_cons_succ]
              refine wpAnyH_take (i := 4) (v := ?_) (by simp only [List.getElem?_toArray]; rfl) (by kernel_rfl) (by kernel_rfl) (by kernel_rfl) (by exact fun _ _ _ h => h) (Or.inl ⟨by rfl, ?_⟩) (by assumption) ?_
              rotate_left 1
              · intro w hSw; (try dsimp only at hSw); go_simp; try with_reducible rfl
              try conv => arg 8; simp only [Act.put, List.setIfInBounds_toArray, List.set_cons_zero, List.set_cons_succ]
              refine wpAnyH_take (i := 5) (v := ?_) (by simp only [List.getElem?_toArray]; rfl) (by kernel_rfl) (by kernel_rfl) (by kernel_rfl) (by exact fun _ _ _ h => h) (Or.inl ⟨by rfl, ?_⟩) (by assumption) ?_
              rotate_left 1
              · intro w hSw; (try dsimp only at hSw); go_simp; try with_reducible rfl
              try conv => arg 8; simp only [Act.put, List.setIfInBounds_toArray, List.set_cons_zero, List.set_cons_succ]
              refine wpAnyH_take (i := 6) (v := ?_) (by simp only [List.getElem?_toArray]; rfl) (by kernel_rfl) (by kernel_rfl) (by kernel_rfl) (by exact fun _ _ _ h => h) (Or.inl ⟨by rfl, ?_⟩) (by assumption) ?_
              rotate_left 1
              · intro w hSw; (try dsimp only at hSw); go_simp; try with_reducible rfl
              try conv => arg 8; simp only [Act.put, List.setIfInBounds_toArray, List.set_cons_zero, List.set_cons_succ]
              refine wpAnyH_take (i := 7) (v := ?_) (by simp only [List.getElem?_toArray]; rfl) (by kernel_rfl) (by kernel_rfl) (by kernel_rfl) (by exact fun _ _ _ h => h) (Or.inl ⟨by rfl, ?_⟩) (by assumption) ?_
              rotate_left 1
              · intro w hSw; (try dsimp only at hSw); go_simp; try with_reducible rfl
              try conv => arg 8; simp only [Act.put, List.setIfInBounds_toArray, List.set_cons_zero, List.set_cons_succ]
              refine wpAnyH_take (i := 8) (v := ?_) (by simp only [List.getElem?_toArray]; rfl) (by kernel_rfl) (by kernel_rfl) (by kernel_rfl) (by exact fun _ _ _ h => h) (Or.inl ⟨by rfl, ?_⟩) (by assumption) ?_
              rotate_left 1
              · intro w hSw; (try dsimp only at hSw); go_simp; try with_reducible rfl
              try conv => arg 8; simp only [Act.put, List.setIfInBounds_toArray, List.set_cons_zero, List.set_cons_succ]
              refine wpAnyH_take (i := 9) (v := ?_) (by simp only [List.getElem?_toArray]; rfl) (by kernel_rfl) (by kernel_rfl) (by kernel_rfl) (by exact fun _ _ _ h => h) (Or.inl ⟨by rfl, ?_⟩) (by assumption) ?_
              rotate_left 1
              · intro w hSw; (try dsimp only at hSw); go_simp; try with_reducible rfl
              try conv => arg 8; simp only [Act.put, List.setIfInBounds_toArray, List.set_cons_zero, List.set_cons_succ]
              refine wpAnyH_take (i := 10) (v := ?_) (by simp only [List.getElem?_toArray]; rfl) (by kernel_rfl) (by kernel_rfl) (by kernel_rfl) (by exact fun _ _ _ h => h) (Or.inl ⟨by rfl, ?_⟩) (by assumption) ?_
              rotate_left 1
              · intro w hSw; (try dsimp only at hSw); go_simp; try with_reducible rfl
              try conv => arg 8; simp only [Act.put, List.setIfInBounds_toArray, List.set_cons_zero, List.set_cons_succ]
              refine wpAnyH_done (by kernel_rfl) ?_ _

              replace htw := htw.call bb
              clear HS hHeld bb yx xe yf hba e1 e2
              have HSS := Lib.hid htw
              have hp0 := htw.o0.alloc (.cells #[.int .i64 z] 3)
              have hnw := news_new W0 [.int .i64 z] 3
              have hs2 : wB.heap.size ≤ (W0.alloc (.cells #[.int .i64 z] 3)).heap.size := by rw [World.size_alloc]; have h1 := htw.bl.size; omega
              have HOW := Lib.hid hp0; have HNW := Lib.hid hnw
              clear hp0 hnw htw
              go_upto_region 27 with (at_builtin; refine appP elt_int rfl _ _ rfl (W0.alloc (.cells #[.int .i64 z] 3)) wB.heap.size _ _ _ (ic (modG gn (l1.take i))) _ 1 1 [.int .i64 z] (by rfl) (by rfl) HOW.out rfl HNW.out (by simp [Value.oneCell']) (by omega) hs2 ?_; intro A2 d2 W4 ho4 hg4 hb4 hat4)
              have hp1 := HSS.out.push0 (Below.refl _ _) ho4 hg4 hb4 hat4
              clear ho4 hg4 hb4 hat4 HOW HNW hs2 HSS
              have HS1 := Lib.hid hp1
              clear hp1
              by_cases hzp : z = (p : Int)
              · have HZP := Lib.hid (show swapG p q z = (q : Int) by unfold swapG; rw [if_pos hzp])
                have tz : ((z : Int) == (p : Int)) = true := by simp; exact hzp
                have tz2 : decide ((z : Int) = (p : Int)) = true := by simp; exact hzp
                clear hzp
                have hp0 := HS1.out.o1.alloc (.cells #[.int .i64 q] 3)
                have hnw := news_new W4 [.int .i64 q] 3
                have hs2 : wB.heap.size ≤ (W4.alloc (.cells #[.int .i64 q] 3)).heap.size := by rw [World.size_alloc]; have h1 := HS1.out.bl.size; omega
                have HOW := Lib.hid hp0; have HNW := Lib.hid hnw
                clear hp0 hnw
                go_wp2_with (at_builtin; refine appP elt_int rfl _ _ rfl (W4.alloc (.cells #[.int .i64 q] 3)) wB.heap.size _ _ _ (ic ((modG gn (l1.take i)).map (swapG p q))) _ 1 1 [.int .i64 q] (by rfl) (by rfl) HOW.out rfl HNW.out (by simp [Value.oneCell']) (by omega) hs2 ?_; intro A3 d3 W5 ho5 hg5 hb5 hat5)
                have hp2 := HS1.out.push1 (Below.refl _ _) ho5 hg5 hb5 hat5
                go_roundw
                case rel => first | exact ⟨i + 1, A2, d2, A3, d3, by omega, by omega, by go_num, rfl, rfl, by rw [HMS.out, HMG.out, HZP.out]; exact hp2⟩ | exact ⟨i + 1, by omega, by omega, by omega, A2, d2, rfl, A3, d3, rfl, by rw [HMS.out, HMG.out, HZP.out]; exact hp2⟩
                case measure => simp [intOf]; omega
              · have HZP := Lib.hid (show swapG p q z = z by unfold swapG; rw [if_neg hzp])
                have hp0 := HS1.out.o1.alloc (.cells #[.int .i64 z] 3)
                have hnw := news_new W4 [.int .i64 z] 3
                have hs2 : wB.heap.size ≤ (W4.alloc (.cells #[.int .i64 z] 3)).heap.size := by rw [World.size_alloc]; have h1 := HS1.out.bl.size; omega
                have HOW := Lib.hid hp0; have HNW := Lib.hid hnw
                clear hp0 hnw
                go_wp2_with (at_builtin; refine appP elt_int rfl _ _ rfl (W4.alloc (.cells #[.int .i64 z] 3)) wB.heap.size _ _ _ (ic ((modG gn (l1.take i)).map (swapG p q))) _ 1 1 [.int .i64 z] (by rfl) (by rfl) HOW.out rfl HNW.out (by simp [Value.oneCell']) (by omega) hs2 ?_; intro A3 d3 W5 ho5 hg5 hb5 hat5)
                have hp2 := HS1.out.push1 (Below.refl _ _) ho5 hg5 hb5 hat5
                go_roundw
                case rel => first | exact ⟨i + 1, A2, d2, A3, d3, by omega, by omega, by go_num, rfl, rfl, by rw [HMS.out, HMG.out, HZP.out]; exact hp2⟩ | exact ⟨i + 1, by omega, by omega, by omega, A2, d2, rfl, A3, d3, rfl, by rw [HMS.out, HMG.out, HZP.out]; exact hp2⟩
                case measure => simp [intOf]; omega

            · have i10 : ¬ (i : Int) < 10 := by omega
              have htk : l1.take i = l1.take 10 := by rw [show i = 10 by omega]
              rw [htk] at htw
              have hy0 := modG_ok hgn0 (l1.take 10)
              have hy1 := swapG_ok (p := (p : Int)) (q := (q : Int)) (n := gn) ⟨by omega, by omega⟩ hy0
              obtain ⟨y0, hY0⟩ : ∃ y, modG gn (l1.take 10) = y := ⟨_, rfl⟩
              rw [hY0] at hy0 hy1 htw
              have hl0 : i ≤ 9223372036854775807 := by have := htw.o0.cap; omega
              have bwr := below_trans2 BB.out htw.bl
              have kA := KAB.out.below htw.bl KAB.out.lt
              have hAw := HAB.out.call htw.bl
              have r0 := htw.o0.rd
              have r1 := htw.o1.rd
              have a0 := box_cells kA 0 rfl
              have a1 := box_cells kA 1 rfl
              have a2 := box_cells kA 2 rfl
              have a3 := box_cells kA 3 rfl
              have a4 := box_cells kA 4 rfl
              go_upto_region 30 with fail
              clear yx hi10 hin hlt inn i10 hlt10
              clear htw r0 r1 hAw kA hy0 hy1 hY0
              have HS := Lib.hid fun (W : World) (bW : Below wr.heap.size wr W) => (show W.cell? ⟨gA, 0, none⟩ = some (.slice v.ca gn v.cc) ∧ W.cell? ⟨gA, 1, none⟩ = some (.slice v.fa v.fn v.fc) ∧ W.cell? ⟨gA, 2, none⟩ = some (.slice v.ba v.bn v.bc) ∧ W.cell? ⟨gA, 3, none⟩ = some (.slice v.ea v.en v.ec) ∧ W.cell? ⟨gA, 4, none⟩ = some (.slice v.ga v.gn v.gc) from ⟨cell_call a0 bW, cell_call a1 bW, cell_call a2 bW, cell_call a3 bW, cell_call a4 bW⟩)
              have bb := Below.refl wr.heap.size wr
              refine wp_region_held_drew (S := fun w' => w'.cell? ⟨gA, 0, none⟩ = some (.slice v.ca gn v.cc) ∧ w'.cell? ⟨gA, 1, none⟩ = some (.slice v.fa v.fn v.fc) ∧ w'.cell? ⟨gA, 2, none⟩ = some (.slice v.ba v.bn v.bc) ∧ w'.cell? ⟨gA, 3, none⟩ = some (.slice v.ea v.en v.ec) ∧ w'.cell? ⟨gA, 4, none⟩ = some (.slice v.ga v.gn v.gc)) (by kernel_rfl) ?_ (fun hHeld => ?_)
              · exact HS.out _ (below_drewN bb 1)
              replace bb := below_drewN bb 1
              change Below _ _ wr.drew at bb
              generalize hw0 : wr.drew = W0 at hHeld bb ⊢
              clear hw0
              refine wpAnyH_take (i := 0) (v := ?_) (by simp only [List.getElem?_toArray]; rfl) (by kernel_rfl) (by kernel_rfl) (by kernel_rfl) (by exact fun _ _ _ h => h) (Or.inl ⟨by rfl, ?_⟩) (by assumption) ?_
              rotate_left 1
              · intro w hSw; (try dsimp only at hSw); go_simp; try with_reducible rfl
              try conv => arg 8; simp only [Act.put, List.setIfInBounds_toArray, List.set_cons_zero, List.set_cons_succ]
              refine wpAnyH_take (i := 1) (v := ?_) (by simp only [List.getElem?_toArray]; rfl) (by kernel_rfl) (by kernel_rfl) (by kernel_rfl) (by exact fun _ _ _ h => h) (Or.inl ⟨by rfl, ?_⟩) (by assumption) ?_
              rotate_left 1
              · intro w hSw; (try dsimp only at hSw); go_simp; try with_reducible rfl
              try conv => arg 8; simp only [Act.put, List.setIfInBounds_toArray, List.set_cons_zero, List.set_cons_succ]
              refine wpAnyH_take (i := 2) (v := ?_) (by simp only [List.getElem?_toArray]; rfl) (by kernel_rfl) (by kernel_rfl) (by kernel_rfl) (by exact fun _ _ _ h => h) (Or.inl ⟨by rfl, ?_⟩) (by assumption) ?_
              rotate_left 1
              · intro w hSw; (try dsimp only at hSw); go_simp; try with_reducible rfl
              try conv => arg 8; simp only [Act.put, List.setIfInBounds_toArray, List.set_cons_zero, List.set_cons_succ]
              refine wpAnyH_take (i := 3) (v := ?_) (by simp only [List.getElem?_toArray]; rfl) (by kernel_rfl) (by kernel_rfl) (by kernel_rfl) (by exact fun _ _ _ h => h) (Or.inl ⟨by rfl, ?_⟩) (by assumption) ?_
              rotate_left 1
              · intro w hSw; (try dsimp only at hSw); go_simp; try with_reducible rfl
              try conv => arg 8; simp only [Act.put, List.setIfInBounds_toArray, List.set_cons_zero, List.set_cons_succ]
              refine wpAnyH_take (i := 4) (v := ?_) (by simp only [List.getElem?_toArray]; rfl) (by kernel_rfl) (by kernel_rfl) (by kernel_rfl) (by exact fun _ _ _ h => h) (Or.inl ⟨by rfl, ?_⟩) (by assumption) ?_
              rotate_left 1
              · intro w hSw; (try dsimp only at hSw); go_simp; try with_reducible rfl
              try conv => arg 8; simp only [Act.put, List.setIfInBounds_toArray, List.set_cons_zero, List.set_cons_succ]
              refine wpAnyH_take (i := 5) (v := undef) (by simp only [List.getElem?_toArray]; rfl) (by kernel_rfl) (by kernel_rfl) (by kernel_rfl) (by exact fun _ _ _ h => h) (Or.inr ⟨by rfl, rfl⟩) (by assumption) ?_
              try conv => arg 8; simp only [Act.put, List.setIfInBounds_toArray, List.set_cons_zero, List.set_cons_succ]
              refine wpAnyH_take (i := 6) (v := undef) (by simp only [List.getElem?_toArray]; rfl) (by kernel_rfl) (by kernel_rfl) (by kernel_rfl) (by exact fun _ _ _ h => h) (Or.inr ⟨by rfl, rfl⟩) (by assumption) ?_
              try conv => arg 8; simp only [Act.put, List.setIfInBounds_toArray, List.set_cons_zero, List.set_cons_succ]
              refine wpAnyH_take (i := 7) (v := undef) (by simp only [List.getElem?_toArray]; rfl) (by kernel_rfl) (by kernel_rfl) (by kernel_rfl) (by exact fun _ _ _ h => h) (Or.inr ⟨by rfl, rfl⟩) (by assumption) ?_
              try conv => arg 8; simp only [Act.put, List.setIfInBounds_toArray, List.set_cons_zero, List.set_cons_succ]
              refine wpAnyH_take (i := 8) (v := undef) (by simp only [List.getElem?_toArray]; rfl) (by kernel_rfl) (by kernel_rfl) (by kernel_rfl) (by exact fun _ _ _ h => h) (Or.inr ⟨by rfl, rfl⟩) (by assumption) ?_
              try conv => arg 8; simp only [Act.put, List.setIfInBounds_toArray, List.set_cons_zero, List.set_cons_succ]
              refine wpAnyH_take (i := 9) (v := undef) (by simp only [List.getElem?_toArray]; rfl) (by kernel_rfl) (by kernel_rfl) (by kernel_rfl) (by exact fun _ _ _ h => h) (Or.inr ⟨by rfl, rfl⟩) (by assumption) ?_
              try conv => arg 8; simp only [Act.put, List.setIfInBounds_toArray, List.set_cons_zero, List.set_cons_succ]
              refine wpAnyH_take (i := 10) (v := undef) (by simp only [List.getElem?_toArray]; rfl) (by kernel_rfl) (by kernel_rfl) (by kernel_rfl) (by exact fun _ _ _ h => h) (Or.inr ⟨by rfl, rfl⟩) (by assumption) ?_
              try conv => arg 8; simp only [Act.put, List.setIfInBounds_toArray, List.set_cons_zero, List.set_cons_succ]
              refine wpAnyH_take (i := 11) (v := undef) (by simp only [List.getElem?_toArray]; rfl) (by kernel_rfl) (by kernel_rfl) (by kernel_rfl) (by exact fun _ _ _ h => h) (Or.inr ⟨by rfl, rfl⟩) (by assumption) ?_
              try conv => arg 8; simp only [Act.put, List.setIfInBounds_toArray, List.set_cons_zero, List.set_cons_succ]
              refine wpAnyH_take (i := 12) (v := undef) (by simp only [List.getElem?_toArray]; rfl) (by kernel_rfl) (by kernel_rfl) (by kernel_rfl) (by exact fun _ _ _ h => h) (Or.inr ⟨by rfl, rfl⟩) (by assumption) ?_
              try conv => arg 8; simp only [Act.put, List.setIfInBounds_toArray, List.set_cons_zero, List.set_cons_succ]
              refine wpAnyH_take (i := 13) (v := undef) (by simp only [List.getElem?_toArray]; rfl) (by kernel_rfl) (by kernel_rfl) (by kernel_rfl) (by exact fun _ _ _ h => h) (Or.inr ⟨by rfl, rfl⟩) (by assumption) ?_
              try conv => arg 8; simp only [Act.put, List.setIfInBounds_toArray, List.set_cons_zero, List.set_cons_succ]
              refine wpAnyH_take (i := 14) (v := undef) (by simp only [List.getElem?_toArray]; rfl) (by kernel_rfl) (by kernel_rfl) (by kernel_rfl) (by exact fun _ _ _ h => h) (Or.inr ⟨by rfl, rfl⟩) (by assumption) ?_
              try conv => arg 8; simp only [Act.put, List.setIfInBounds_toArray, List.set_cons_zero, List.set_cons_succ]
              refine wpAnyH_take (i := 15) (v := undef) (by simp only [List.getElem?_toArray]; rfl) (by kernel_rfl) (by kernel_rfl) (by kernel_rfl) (by exact fun _ _ _ h => h) (Or.inr ⟨by rfl, rfl⟩) (by assumption) ?_
              try conv => arg 8; simp only [Act.put, List.setIfInBounds_toArray, List.set_cons_zero, List.set_cons_succ]
              refine wpAnyH_take (i := 16) (v := undef) (by simp only [List.getElem?_toArray]; rfl) (by kernel_rfl) (by kernel_rfl) (by kernel_rfl) (by exact fun _ _ _ h => h) (Or.inr ⟨by rfl, rfl⟩) (by assumption) ?_
              try conv => arg 8; simp only [Act.put, List.setIfInBounds_toArray, List.set_cons_zero, List.set_cons_succ]
              refine wpAnyH_take (i := 17) (v := undef) (by simp only [List.getElem?_toArray]; rfl) (by kernel_rfl) (by kernel_rfl) (by kernel_rfl) (by exact fun _ _ _ h => h) (Or.inr ⟨by rfl, rfl⟩) (by assumption) ?_
              try conv => arg 8; simp only [Act.put, List.setIfInBounds_toArray, List.set_cons_zero, List.set_cons_succ]
              refine wpAnyH_take (i := 18) (v := undef) (by simp only [List.getElem?_toArray]; rfl) (by kernel_rfl) (by kernel_rfl) (by kernel_rfl) (by exact fun _ _ _ h => h) (Or.inr ⟨by rfl, rfl⟩) (by assumption) ?_
              try conv => arg 8; simp only [Act.put, List.setIfInBounds_toArray, List.set_cons_zero, List.set_cons_succ]
              refine wpAnyH_take (i := 19) (v := undef) (by simp only [List.getElem?_toArray]; rfl) (by kernel_rfl) (by kernel_rfl) (by kernel_rfl) (by exact fun _ _ _ h => h) (Or.inr ⟨by rfl, rfl⟩) (by assumption) ?_
              try conv => arg 8; simp only [Act.put, List.setIfInBounds_toArray, List.set_cons_zero, List.set_cons_succ]
              refine wpAnyH_take (i := 20) (v := undef) (by simp only [List.getElem?_toArray]; rfl) (by kernel_rfl) (by kernel_rfl) (by kernel_rfl) (by exact fun _ _ _ h => h) (Or.inr ⟨by rfl, rfl⟩) (by assumption) ?_
              try conv => arg 8; simp only [Act.put, List.setIfInBounds_toArray, List.set_cons_zero, List.set_cons_succ]
              refine wpAnyH_take (i := 21) (v := ?_) (by simp only [List.getElem?_toArray]; rfl) (by kernel_rfl) (by kernel_rfl) (by kernel_rfl) (by exact fun _ _ _ h => h) (Or.inl ⟨by rfl, ?_⟩) (by assumption) ?_
              rotate_left 1
              · intro w hSw; (try dsimp only at hSw); go_simp; try with_reducible rfl
              try conv => arg 8; simp only [Act.put, List.setIfInBounds_toArray, List.set_cons_zero, List.set_cons_succ]
              refine wpAnyH_take (i := 22) (v := ?_) (by simp only [List.getElem?_toArray]; rfl) (by kernel_rfl) (by kernel_rfl) (by kernel_rfl) (by exact fun _ _ _ h => h) (Or.inl ⟨by rfl, ?_⟩) (by assumption) ?_
              rotate_left 1
              · intro w hSw; (try dsimp only at hSw); go_simp; try with_reducible rfl
              try conv => arg 8; simp only [Act.put, List.setIfInBounds_toArray, List.set_cons_zero, List.set_cons_succ]
              refine wpAnyH_take (i := 23) (v := ?_) (by simp only [List.getElem?_toArray]; rfl) (by kernel_rfl) (by kernel_rfl) (by kernel_rfl) (by exact fun _ _ _ h => h) (Or.inl ⟨by rfl, ?_⟩) (by assumption) ?_
              rotate_left 1
              · intro w hSw; (try dsimp only at hSw); go_simp; try with_reducible rfl
              try conv => arg 8; simp only [Act.put, List.setIfInBounds_toArray, List.set_cons_zero, List.set_cons_succ]
              refine wpAnyH_done (by kernel_rfl) ?_ _
              clear HS hHeld a0 a1 a2 a3 a4
              replace bwr := bwr.trans (bb.mono bwr.size)
              go_wp2
              go_ret
              exact ⟨rfl, bwr⟩



          · have inn : ¬ (i : Int) < (n1 : Int) := by omega
            have htk : l1.take i = l1.take 10 := by rw [List.take_of_length_le (show l1.length ≤ 10 by rw [L1.out]; omega), List.take_of_length_le (show l1.length ≤ i by rw [L1.out]; omega)]
            rw [htk] at htw
            have hy0 := modG_ok hgn0 (l1.take 10)
            have hy1 := swapG_ok (p := (p : Int)) (q := (q : Int)) (n := gn) ⟨by omega, by omega⟩ hy0
            obtain ⟨y0, hY0⟩ : ∃ y, modG gn (l1.take 10) = y := ⟨_, rfl⟩
            rw [hY0] at hy0 hy1 htw
            have hl0 : i ≤ 9223372036854775807 := by have := htw.o0.cap; omega
            have bwr := below_trans2 BB.out htw.bl
            have kA := KAB.out.below htw.bl KAB.out.lt
            have hAw := HAB.out.call htw.bl
            have r0 := htw.o0.rd
            have r1 := htw.o1.rd
            have a0 := box_cells kA 0 rfl
            have a1 := box_cells kA 1 rfl
            have a2 := box_cells kA 2 rfl
            have a3 := box_cells kA 3 rfl
            have a4 := box_cells kA 4 rfl
            go_upto_region 30 with fail
            clear yx hi10 hin hlt inn
            clear htw r0 r1 hAw kA hy0 hy1 hY0
            have HS := Lib.hid fun (W : World) (bW : Below wr.heap.size wr W) => (show W.cell? ⟨gA, 0, none⟩ = some (.slice v.ca gn v.cc) ∧ W.cell? ⟨gA, 1, none⟩ = some (.slice v.fa v.fn v.fc) ∧ W.cell? ⟨gA, 2, none⟩ = some (.slice v.ba v.bn v.bc) ∧ W.cell? ⟨gA, 3, none⟩ = some (.slice v.ea v.en v.ec) ∧ W.cell? ⟨gA, 4, none⟩ = some (.slice v.ga v.gn v.gc) from ⟨cell_call a0 bW, cell_call a1 bW, cell_call a2 bW, cell_call a3 bW, cell_call a4 bW⟩)
            have bb := Below.refl wr.heap.size wr
            refine wp_region_held_drew (S := fun w' => w'.cell? ⟨gA, 0, none⟩ = some (.slice v.ca gn v.cc) ∧ w'.cell? ⟨gA, 1, none⟩ = some (.slice v.fa v.fn v.fc) ∧ w'.cell? ⟨gA, 2, none⟩ = some (.slice v.ba v.bn v.bc) ∧ w'.cell? ⟨gA, 3, none⟩ = some (.slice v.ea v.en v.ec) ∧ w'.cell? ⟨gA, 4, none⟩ = some (.slice v.ga v.gn v.gc)) (by kernel_rfl) ?_ (fun hHeld => ?_)
            · exact HS.out _ (below_drewN bb 1)
            replace bb := below_drewN bb 1
            change Below _ _ wr.drew at bb
            generalize hw0 : wr.drew = W0 at hHeld bb ⊢
            clear hw0
            refine wpAnyH_take (i := 0) (v := ?_) (by simp only [List.getElem?_toArray]; rfl) (by kernel_rfl) (by kernel_rfl) (by kernel_rfl) (by exact fun _ _ _ h => h) (Or.inl ⟨by rfl, ?_⟩) (by assumption) ?_
            rotate_left 1
            · intro w hSw; (try dsimp only at hSw); go_simp; try with_reducible rfl
            try conv => arg 8; simp only [Act.put, List.setIfInBounds_toArray, List.set_cons_zero, List.set_cons_succ]
            refine wpAnyH_take (i := 1) (v := ?_) (by simp only [List.getElem?_toArray]; rfl) (by kernel_rfl) (by kernel_rfl) (by kernel_rfl) (by exact fun _ _ _ h => h) (Or.inl ⟨by rfl, ?_⟩) (by assumption) ?_
            rotate_left 1
            · intro w hSw; (try dsimp only at hSw); go_simp; try with_reducible rfl
            try conv => arg 8; simp only [Act.put, List.setIfInBounds_toArray, List.set_cons_zero, List.set_cons_succ]
            refine wpAnyH_take (i := 2) (v := ?_) (by simp only [List.getElem?_toArray]; rfl) (by kernel_rfl) (by kernel_rfl) (by kernel_rfl) (by exact fun _ _ _ h => h) (Or.inl ⟨by rfl, ?_⟩) (by assumption) ?_
            rotate_left 1
            · intro w hSw; (try dsimp only at hSw); go_simp; try with_reducible rfl
            try conv => arg 8; simp only [Act.put, List.setIfInBounds_toArray, List.set_cons_zero, List.set_cons_succ]
            refine wpAnyH_take (i := 3) (v := ?_) (by simp only [List.getElem?_toArray]; rfl) (by kernel_rfl) (by kernel_rfl) (by kernel_rfl) (by exact fun _ _ _ h => h) (Or.inl ⟨by rfl, ?_⟩) (by assumption) ?_
            rotate_left 1
            · intro w hSw; (try dsimp only at hSw); go_simp; try with_reducible rfl
            try conv => arg 8; simp only [Act.put, List.setIfInBounds_toArray, List.set_cons_zero, List.set_cons_succ]
            refine wpAnyH_take (i := 4) (v := ?_) (by simp only [List.getElem?_toArray]; rfl) (by kernel_rfl) (by kernel_rfl) (by kernel_rfl) (by exact fun _ _ _ h => h) (Or.inl ⟨by rfl, ?_⟩) (by assumption) ?_
            rotate_left 1
            · intro w hSw; (try dsimp only at hSw); go_simp; try with_reducible rfl
            try conv => arg 8; simp only [Act.put, List.setIfInBounds_toArray, List.set_cons_zero, List.set_cons_succ]
            refine wpAnyH_take (i := 5) (v := undef) (by simp only [List.getElem?_toArray]; rfl) (by kernel_rfl) (by kernel_rfl) (by kernel_rfl) (by exact fun _ _ _ h => h) (Or.inr ⟨by rfl, rfl⟩) (by assumption) ?_
            try conv => arg 8; simp only [Act.put, List.setIfInBounds_toArray, List.set_cons_zero, List.set_cons_succ]
            refine wpAnyH_take (i := 6) (v := undef) (by simp only [List.getElem?_toArray]; rfl) (by kernel_rfl) (by kernel_rfl) (by kernel_rfl) (by exact fun _ _ _ h => h) (Or.inr ⟨by rfl, rfl⟩) (by assumption) ?_
            try conv => arg 8; simp only [Act.put, List.setIfInBounds_toArray, List.set_cons_zero, List.set_cons_succ]
            refine wpAnyH_take (i := 7) (v := undef) (by simp only [List.getElem?_toArray]; rfl) (by kernel_rfl) (by kernel_rfl) (by kernel_rfl) (by exact fun _ _ _ h => h) (Or.inr ⟨by rfl, rfl⟩) (by assumption) ?_
            try conv => arg 8; simp only [Act.put, List.setIfInBounds_toArray, List.set_cons_zero, List.set_cons_succ]
            refine wpAnyH_take (i := 8) (v := undef) (by simp only [List.getElem?_toArray]; rfl) (by kernel_rfl) (by kernel_rfl) (by kernel_rfl) (by exact fun _ _ _ h => h) (Or.inr ⟨by rfl, rfl⟩) (by assumption) ?_
            try conv => arg 8; simp only [Act.put, List.setIfInBounds_toArray, List.set_cons_zero, List.set_cons_succ]
            refine wpAnyH_take (i := 9) (v := undef) (by simp only [List.getElem?_toArray]; rfl) (by kernel_rfl) (by kernel_rfl) (by kernel_rfl) (by exact fun _ _ _ h => h) (Or.inr ⟨by rfl, rfl⟩) (by assumption) ?_
            try conv => arg 8; simp only [Act.put, List.setIfInBounds_toArray, List.set_cons_zero, List.set_cons_succ]
            refine wpAnyH_take (i := 10) (v := undef) (by simp only [List.getElem?_toArray]; rfl) (by kernel_rfl) (by kernel_rfl) (by kernel_rfl) (by exact fun _ _ _ h => h) (Or.inr ⟨by rfl, rfl⟩) (by assumption) ?_
            try conv => arg 8; simp only [Act.put, List.setIfInBounds_toArray, List.set_cons_zero, List.set_cons_succ]
            refine wpAnyH_take (i := 11) (v := undef) (by simp only [List.getElem?_toArray]; rfl) (by kernel_rfl) (by kernel_rfl) (by kernel_rfl) (by exact fun _ _ _ h => h) (Or.inr ⟨by rfl, rfl⟩) (by assumption) ?_
            try conv => arg 8; simp only [Act.put, List.setIfInBounds_toArray, List.set_cons_zero, List.set_cons_succ]
            refine wpAnyH_take (i := 12) (v := undef) (by simp only [List.getElem?_toArray]; rfl) (by kernel_rfl) (by kernel_rfl) (by kernel_rfl) (by exact fun _ _ _ h => h) (Or.inr ⟨by rfl, rfl⟩) (by assumption) ?_
            try conv => arg 8; simp only [Act.put, List.setIfInBounds_toArray, List.set_cons_zero, List.set_cons_succ]
            refine wpAnyH_take (i := 13) (v := undef) (by simp only [List.getElem?_toArray]; rfl) (by kernel_rfl) (by kernel_rfl) (by kernel_rfl) (by exact fun _ _ _ h => h) (Or.inr ⟨by rfl, rfl⟩) (by assumption) ?_
            try conv => arg 8; simp only [Act.put, List.setIfInBounds_toArray, List.set_cons_zero, List.set_cons_succ]
            refine wpAnyH_take (i := 14) (v := undef) (by simp only [List.getElem?_toArray]; rfl) (by kernel_rfl) (by kernel_rfl) (by kernel_rfl) (by exact fun _ _ _ h => h) (Or.inr ⟨by rfl, rfl⟩) (by assumption) ?_
            try conv => arg 8; simp only [Act.put, List.setIfInBounds_toArray, List.set_cons_zero, List.set_cons_succ]
            refine wpAnyH_take (i := 15) (v := undef) (by simp only [List.getElem?_toArray]; rfl) (by kernel_rfl) (by kernel_rfl) (by kernel_rfl) (by exact fun _ _ _ h => h) (Or.inr ⟨by rfl, rfl⟩) (by assumption) ?_
            try conv => arg 8; simp only [Act.put, List.setIfInBounds_toArray, List.set_cons_zero, List.set_cons_succ]
            refine wpAnyH_take (i := 16) (v := undef) (by simp only [List.getElem?_toArray]; rfl) (by kernel_rfl) (by kernel_rfl) (by kernel_rfl) (by exact fun _ _ _ h => h) (Or.inr ⟨by rfl, rfl⟩) (by assumption) ?_
            try conv => arg 8; simp only [Act.put, List.setIfInBounds_toArray, List.set_cons_zero, List.set_cons_succ]
            refine wpAnyH_take (i := 17) (v := undef) (by simp only [List.getElem?_toArray]; rfl) (by kernel_rfl) (by kernel_rfl) (by kernel_rfl) (by exact fun _ _ _ h => h) (Or.inr ⟨by rfl, rfl⟩) (by assumption) ?_
            try conv => arg 8; simp only [Act.put, List.setIfInBounds_toArray, List.set_cons_zero, List.set_cons_succ]
            refine wpAnyH_take (i := 18) (v := undef) (by simp only [List.getElem?_toArray]; rfl) (by kernel_rfl) (by kernel_rfl) (by kernel_rfl) (by exact fun _ _ _ h => h) (Or.inr ⟨by rfl, rfl⟩) (by assumption) ?_
            try conv => arg 8; simp only [Act.put, List.setIfInBounds_toArray, List.set_cons_zero, List.set_cons_succ]
            refine wpAnyH_take (i := 19) (v := undef) (by simp only [List.getElem?_toArray]; rfl) (by kernel_rfl) (by kernel_rfl) (by kernel_rfl) (by exact fun _ _ _ h => h) (Or.inr ⟨by rfl, rfl⟩) (by assumption) ?_
            try conv => arg 8; simp only [Act.put, List.setIfInBounds_toArray, List.set_cons_zero, List.set_cons_succ]
            refine wpAnyH_take (i := 20) (v := undef) (by simp only [List.getElem?_toArray]; rfl) (by kernel_rfl) (by kernel_rfl) (by kernel_rfl) (by exact fun _ _ _ h => h) (Or.inr ⟨by rfl, rfl⟩) (by assumption) ?_
            try conv => arg 8; simp only [Act.put, List.setIfInBounds_toArray, List.set_cons_zero, List.set_cons_succ]
            refine wpAnyH_take (i := 21) (v := ?_) (by simp only [List.getElem?_toArray]; rfl) (by kernel_rfl) (by kernel_rfl) (by kernel_rfl) (by exact fun _ _ _ h => h) (Or.inl ⟨by rfl, ?_⟩) (by assumption) ?_
            rotate_left 1
            · intro w hSw; (try dsimp only at hSw); go_simp; try with_reducible rfl
            try conv => arg 8; simp only [Act.put, List.setIfInBounds_toArray, List.set_cons_zero, List.set_cons_succ]
            refine wpAnyH_take (i := 22) (v := ?_) (by simp only [List.getElem?_toArray]; rfl) (by kernel_rfl) (by kernel_rfl) (by kernel_rfl) (by exact fun _ _ _ h => h) (Or.inl ⟨by rfl, ?_⟩) (by assumption) ?_
            rotate_left 1
            · intro w hSw; (try dsimp only at hSw); go_simp; try with_reducible rfl
            try conv => arg 8; simp only [Act.put, List.setIfInBounds_toArray, List.set_cons_zero, List.set_cons_succ]
            refine wpAnyH_take (i := 23) (v := ?_) (by simp only [List.getElem?_toArray]; rfl) (by kernel_rfl) (by kernel_rfl) (by kernel_rfl) (by exact fun _ _ _ h => h) (Or.inl ⟨by rfl, ?_⟩) (by assumption) ?_
            rotate_left 1
            · intro w hSw; (try dsimp only at hSw); go_simp; try with_reducible rfl
            try conv => arg 8; simp only [Act.put, List.setIfInBounds_toArray, List.set_cons_zero, List.set_cons_succ]
            refine wpAnyH_done (by kernel_rfl) ?_ _
            clear HS hHeld a0 a1 a2 a3 a4
            replace bwr := bwr.trans (bb.mono bwr.size)
            go_wp2
            go_ret
            exact ⟨rfl, bwr⟩






end Go.Proofs.YtgcmedkaadagmaaDoor
