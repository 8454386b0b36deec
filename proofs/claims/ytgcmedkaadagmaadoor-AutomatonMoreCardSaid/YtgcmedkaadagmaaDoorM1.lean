/- Walks: AutomatonReads. -/
import Derived.Test.YtgcmedkaadagmaaDoorL7
import Derived.Test.YtgcmedkaadagmaaDoorQ1
namespace Go.Proofs.YtgcmedkaadagmaaDoor
open Go.RowKit Go.Shelf Go.Maps

theorem rd_cut {w : World} {S : Nat → Prop} {A : Option Addr} {n m k : Nat} {xs : List Int} (h : Rd w S A n xs) (hm : m = min n k) : (ic (xs.take k)).length = m * 1 ∧ (0 < m → ∃ b o, A = some ⟨b, o, none⟩ ∧ ∀ j u, (ic (xs.take k))[j]? = some u → w.cell? ⟨b, o + j, none⟩ = some u) := by
  refine ⟨ic_take_len h.len hm, ?_⟩
  have h1 := h.take m (by rw [hm]; exact Nat.min_le_left _ _)
  have h2 := rd_news (show Rd w S A m (xs.take m) from h1)
  rw [take_min xs h.len, ← hm]
  exact h2
theorem isA_fresh {w W W' : World} {g : Nat} {v : AV} {a : Au} (h : IsA W (fun b => w.heap.size ≤ b ∧ b < W.heap.size) v a) (hg : g < w.heap.size) (hk : ∀ b, b ≠ g → W'.heap[b]? = W.heap[b]?) (hs : W'.heap.size = W.heap.size) : IsA W' (lo W'.heap.size) v a :=
  h.mono (fun b hb => by unfold lo; omega) (fun b hb => hk b (by omega))

set_option maxRecDepth 100000 in
set_option maxHeartbeats 1000000 in
theorem automatonReads_walk (v : AV) (a : Au) (A1 : Option Addr) (n1 c1 : Nat) (l1 : List Int) (A2 : Option Addr) (n2 c2 : Nat) (l2 : List Int) (w : World) (h : IsA w (lo w.heap.size) v a) (h1 : Rd w (lo w.heap.size) A1 n1 l1) (g1 : Hd n1 c1) (h2 : Rd w (lo w.heap.size) A2 n2 l2) (g2 : Hd n2 c2) (hT : Tab w) : Calls Tryd.prog 9 #[.agg v.cells, .slice A1 n1 c1, .slice A2 n2 c2] w fun e w' => e = .returned (.bool true) ∧ Below w.heap.size w w' := by
  have hTp := hT.pos
  have b0 : Below w.heap.size w (w.alloc (.cells v.cells 38)) := below_lit _ _ (Below.refl _ _) _
  have HSH := Lib.hid (shown_c (w.alloc (.cells v.cells 38)) (hT.call b0 hTp))
  have HTT := Lib.hid fun (W : World) (bW : Below w.heap.size w W) => hT.call bW hTp
  have HA := Lib.hid fun (W : World) (bW : Below w.heap.size w W) => h.call bW
  have HR1 := Lib.hid fun (W : World) (bW : Below w.heap.size w W) => h1.call bW
  obtain ⟨m1, hm1⟩ : ∃ m : Nat, m = min n1 40 := ⟨_, rfl⟩
  have m1a : min (n1 : Int) 40 = (m1 : Int) := by omega
  have m1b : (if (40 : Int) < (n1 : Int) then (40 : Int) else (n1 : Int)) = (m1 : Int) := by split <;> omega
  have m1z : (0 : Int) ≤ (m1 : Int) := by omega
  have m1c : (m1 : Int) ≤ (c1 : Int) := by have := g1.1; omega
  have m1d : c1 ≤ 9223372036854775807 := g1.2
  have m1k : m1 ≤ 40 := by omega
  have HM1 := Lib.hid hm1
  have HR2 := Lib.hid fun (W : World) (bW : Below w.heap.size w W) => h2.call bW
  obtain ⟨m2, hm2⟩ : ∃ m : Nat, m = min n2 40 := ⟨_, rfl⟩
  have m2a : min (n2 : Int) 40 = (m2 : Int) := by omega
  have m2b : (if (40 : Int) < (n2 : Int) then (40 : Int) else (n2 : Int)) = (m2 : Int) := by split <;> omega
  have m2z : (0 : Int) ≤ (m2 : Int) := by omega
  have m2c : (m2 : Int) ≤ (c2 : Int) := by have := g2.1; omega
  have m2d : c2 ≤ 9223372036854775807 := g2.2
  have m2k : m2 ≤ 40 := by omega
  have HM2 := Lib.hid hm2
  clear h hT h1 hm1 g1 h2 hm2 g2
  have kx0 := Bk.new w 38 #[.slice v.ca v.cn v.cc, .slice v.fa v.fn v.fc, .slice v.ba v.bn v.bc, .slice v.ea v.en v.ec, .slice v.ga v.gn v.gc]
  have gx0 : w.heap.size < (w.alloc (.cells #[.slice v.ca v.cn v.cc, .slice v.fa v.fn v.fc, .slice v.ba v.bn v.bc, .slice v.ea v.en v.ec, .slice v.ga v.gn v.gc] 38)).heap.size := kx0.lt
  unfold AV.cells at *
  go_enter Tryd.func9, Tryd.ntmps9
  go_wp2_with fail
  refine HSH.out.mono ?_
  rintro e w1 ⟨rfl, bn⟩
  have b1 := below_call b0 bn
  have kx1 := kx0.below bn kx0.lt
  have gx1 := kx1.lt
  have HF := Lib.hid (few_c v a w1 (HA.out w1 b1))
  clear HSH HA b0 kx0 gx0 bn
  unfold AV.cells at *
  have x0 := box_cells kx1 0 rfl
  have x1 := box_cells kx1 1 rfl
  have x2 := box_cells kx1 2 rfl
  have x3 := box_cells kx1 3 rfl
  have x4 := box_cells kx1 4 rfl
  go_wp2_with fail
  refine HF.out.mono ?_
  rintro e w2 ⟨u, rfl, hA2, bn⟩
  have b2 := below_call b1 bn
  have kx2 := kx1.below bn kx1.lt
  clear x0 x1 x2 x3 x4
  have x0 := box_cells kx2 0 rfl
  have xf0 := kx2.frozen 0
  have x1 := box_cells kx2 1 rfl
  have xf1 := kx2.frozen 1
  have x2 := box_cells kx2 2 rfl
  have xf2 := kx2.frozen 2
  have x3 := box_cells kx2 3 rfl
  have xf3 := kx2.frozen 3
  have x4 := box_cells kx2 4 rfl
  have xf4 := kx2.frozen 4
  have kx3 := store5_bk kx2 (.slice u.ca u.cn u.cc) (.slice u.fa u.fn u.fc) (.slice u.ba u.bn u.bc) (.slice u.ea u.en u.ec) (.slice u.ga u.gn u.gc)
  have b3 := store5_below b2 (Nat.le_refl w.heap.size) (.slice u.ca u.cn u.cc) (.slice u.fa u.fn u.fc) (.slice u.ba u.bn u.bc) (.slice u.ea u.en u.ec) (.slice u.ga u.gn u.gc)
  have hk3 := store5_kept (S := fun _ => True) (W := w2) w.heap.size (.slice u.ca u.cn u.cc) (.slice u.fa u.fn u.fc) (.slice u.ba u.bn u.bc) (.slice u.ea u.en u.ec) (.slice u.ga u.gn u.gc)
  have hA3 := isA_fresh hA2 gx1 (fun b hb => hk3.1 b ⟨trivial, hb⟩) hk3.2
  unfold store5 at kx3 b3 hA3
  have K3 := Lib.hid kx3; have B3 := Lib.hid b3; have HA3 := Lib.hid hA3
  clear HF hk3 hA2 bn kx1 kx2 b1 b2 gx1 kx3 b3 hA3
  unfold AV.cells at *
  go_upto_region 3 with fail
  clear x0 xf0 x1 xf1 x2 xf2 x3 xf3 x4 xf4
  replace K3 := K3.out; replace B3 := B3.out; replace HA3 := HA3.out
  generalize (World.setCell _ _ _) = w3 at *
  have gx3 := K3.lt
  have q1 := rd_cut (HR1.out w3 B3) HM1.out
  have ba1 : Below w3.heap.size w3 (w3.alloc (.cells #[] 3)) := below_lit _ _ (Below.refl _ _) _
  have q1' := rd_cut (HR1.out (w3.alloc (.cells #[] 3)) (below_call B3 ba1)) HM1.out
  have Q1 := Lib.hid q1'; have BA1 := Lib.hid ba1
  clear q1 q1' ba1 HR1 HM1
  go_upto_region 4 with (at_builtin; refine appP elt_int rfl _ _ rfl (w3.alloc (.cells #[] 3)) w3.heap.size _ _ _ [] _ _ _ (ic (l1.take 40)) (by rfl) (by rfl) (Ow.empty _ _ _ _ (Nat.le_refl _)) Q1.out.1 Q1.out.2 (ic_one _) (by omega) (by simp) ?_; intro A1' c1' w4 o1 og ob oh; rw [List.nil_append, Nat.zero_add] at o1; rw [Nat.zero_add]; clear og oh)
  have bn := BA1.out.trans ob
  clear m1a m1b m1z m1c m1d Q1 BA1 ob
  replace B3 := below_call B3 bn
  replace K3 := K3.below bn gx3
  replace HA3 := HA3.call bn
  replace gx3 := K3.lt
  clear bn
  have q2 := rd_cut (HR2.out w4 B3) HM2.out
  have ba2 : Below w4.heap.size w4 (w4.alloc (.cells #[] 3)) := below_lit _ _ (Below.refl _ _) _
  have q2' := rd_cut (HR2.out (w4.alloc (.cells #[] 3)) (below_call B3 ba2)) HM2.out
  have Q2 := Lib.hid q2'; have BA2 := Lib.hid ba2
  clear q2 q2' ba2 HR2 HM2
  go_upto_region 5 with (at_builtin; refine appP elt_int rfl _ _ rfl (w4.alloc (.cells #[] 3)) w4.heap.size _ _ _ [] _ _ _ (ic (l2.take 40)) (by rfl) (by rfl) (Ow.empty _ _ _ _ (Nat.le_refl _)) Q2.out.1 Q2.out.2 (ic_one _) (by omega) (by simp) ?_; intro A2' c2' w5 o2 og ob oh; rw [List.nil_append, Nat.zero_add] at o2; rw [Nat.zero_add]; clear og oh)
  have bn := BA2.out.trans ob
  clear m2a m2b m2z m2c m2d Q2 BA2 ob
  replace B3 := below_call B3 bn
  replace K3 := K3.below bn gx3
  replace HA3 := HA3.call bn
  replace gx3 := K3.lt
  replace o1 := o1.call bn
  clear bn
  have r1 := o1.rd; have r2 := o2.rd
  have s1 : m1 ≤ 9223372036854775807 := by omega
  have s2 : m2 ≤ 9223372036854775807 := by omega
  clear o1 o2 gx3
  have lX := HA3.back_lt (l1.take 40)
  have lY := HA3.fore_lt (l2.take 40)
  have ha := bits_and_u64_nat (backA (fewA a) (l1.take 40)) (foreA (fewA a) (l2.take 40)) lX lY
  clear lX lY
  have x0 := box_cells K3 0 rfl
  have x1 := box_cells K3 1 rfl
  have x2 := box_cells K3 2 rfl
  have x3 := box_cells K3 3 rfl
  have x4 := box_cells K3 4 rfl
  have HC := Lib.hid (dBack_c u (fewA a) A1' m1 c1' (l1.take 40) w5 HA3 r1 s1)
  unfold AV.cells at HC
  go_wp2_with fail
  refine HC.out.mono ?_
  rintro e w6 ⟨rfl, bn⟩
  clear HC
  replace B3 := below_call B3 bn
  replace K3 := K3.below bn K3.lt
  replace HA3 := HA3.call bn
  replace r1 := r1.call bn
  replace r2 := r2.call bn
  clear bn
  clear x0 x1 x2 x3 x4
  have x0 := box_cells K3 0 rfl
  have x1 := box_cells K3 1 rfl
  have x2 := box_cells K3 2 rfl
  have x3 := box_cells K3 3 rfl
  have x4 := box_cells K3 4 rfl
  have HC := Lib.hid (dFore_c u (fewA a) A2' m2 c2' (l2.take 40) w6 HA3 r2 s2)
  unfold AV.cells at HC
  go_wp2_with fail
  refine HC.out.mono ?_
  rintro e w7 ⟨rfl, bn⟩
  clear HC
  replace B3 := below_call B3 bn
  replace K3 := K3.below bn K3.lt
  replace HA3 := HA3.call bn
  replace r1 := r1.call bn
  replace r2 := r2.call bn
  clear bn
  clear x0 x1 x2 x3 x4
  have x0 := box_cells K3 0 rfl
  have x1 := box_cells K3 1 rfl
  have x2 := box_cells K3 2 rfl
  have x3 := box_cells K3 3 rfl
  have x4 := box_cells K3 4 rfl
  have HC := Lib.hid (Back_c u (fewA a) A1' m1 c1' (l1.take 40) w7 HA3 r1 s1)
  unfold AV.cells at HC
  go_wp2_with fail
  refine HC.out.mono ?_
  rintro e w8 ⟨rfl, bn⟩
  clear HC
  replace B3 := below_call B3 bn
  replace K3 := K3.below bn K3.lt
  replace HA3 := HA3.call bn
  replace r1 := r1.call bn
  replace r2 := r2.call bn
  clear bn
  clear x0 x1 x2 x3 x4
  have x0 := box_cells K3 0 rfl
  have x1 := box_cells K3 1 rfl
  have x2 := box_cells K3 2 rfl
  have x3 := box_cells K3 3 rfl
  have x4 := box_cells K3 4 rfl
  have HC := Lib.hid (Fore_c u (fewA a) A2' m2 c2' (l2.take 40) w8 HA3 r2 s2)
  unfold AV.cells at HC
  go_wp2_with fail
  refine HC.out.mono ?_
  rintro e w9 ⟨rfl, bn⟩
  clear HC
  replace B3 := below_call B3 bn
  replace K3 := K3.below bn K3.lt
  replace HA3 := HA3.call bn
  replace r1 := r1.call bn
  replace r2 := r2.call bn
  clear bn
  clear x0 x1 x2 x3 x4
  have x0 := box_cells K3 0 rfl
  have x1 := box_cells K3 1 rfl
  have x2 := box_cells K3 2 rfl
  have x3 := box_cells K3 3 rfl
  have x4 := box_cells K3 4 rfl
  have HC := Lib.hid (First_c u (fewA a) A1' A2' m1 c1' m2 c2' (l1.take 40) (l2.take 40) w9 HA3 r1 r2 s1 s2 (HTT.out w9 B3))
  unfold AV.cells at HC
  go_wp2_with fail
  refine HC.out.mono ?_
  rintro e w10 ⟨rfl, bn⟩
  clear HC
  replace B3 := below_call B3 bn
  replace K3 := K3.below bn K3.lt
  replace HA3 := HA3.call bn
  replace r1 := r1.call bn
  replace r2 := r2.call bn
  clear bn
  clear x0 x1 x2 x3 x4
  have x0 := box_cells K3 0 rfl
  have x1 := box_cells K3 1 rfl
  have x2 := box_cells K3 2 rfl
  have x3 := box_cells K3 3 rfl
  have x4 := box_cells K3 4 rfl
  have HC := Lib.hid (dleast_c (backA (fewA a) (l1.take 40) &&& foreA (fewA a) (l2.take 40)) w10)
  clear K3 HA3 r1 r2
  go_wp2_with fail
  refine HC.out.mono ?_
  rintro e w11 ⟨rfl, rfl⟩
  clear HC
  go_wp2
  go_ret
  exact ⟨rfl, B3⟩


end Go.Proofs.YtgcmedkaadagmaaDoor
