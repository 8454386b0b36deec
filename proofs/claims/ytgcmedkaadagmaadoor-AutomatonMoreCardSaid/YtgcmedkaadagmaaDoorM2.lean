/- Walks: AutomatonMore. -/
import Derived.Test.YtgcmedkaadagmaaDoorM1
import Derived.Test.YtgcmedkaadagmaaDoorP2
namespace Go.Proofs.YtgcmedkaadagmaaDoor
open Go.RowKit Go.Shelf Go.Maps

theorem preF_lt {a : Au} (h : ∀ l, foreA a l < 18446744073709551616) (l : List Int) : ∀ i, preF a l i < 18446744073709551616
  | 0 => by simp [preF]
  | i + 1 => h _
theorem preB_lt {a : Au} (h : ∀ l, backA a l < 18446744073709551616) (l : List Int) : ∀ i, preB a l i < 18446744073709551616
  | 0 => by simp [preB]
  | i + 1 => h _
theorem rd_take {w : World} {S : Nat → Prop} {A : Option Addr} {n m : Nat} {xs : List Int} (h : Rd w S A n xs) (hm : m ≤ n) : Rd w S A m (xs.take m) := SlE.take h m hm
theorem more_eq {x y : Nat} (h1 : x < 18446744073709551616) (h2 : y < 18446744073709551616) (h : x &&& y = y) : bits .and .u64 (x : Int) (y : Int) = (y : Int) := by rw [bits_and_u64_nat x y h1 h2, h]

set_option maxRecDepth 100000 in
set_option maxHeartbeats 1000000 in
theorem automatonMore_walk (v : AV) (a : Au) (A1 : Option Addr) (n1 c1 : Nat) (l1 : List Int) (w : World) (h : IsA w (lo w.heap.size) v a) (h1 : Rd w (lo w.heap.size) A1 n1 l1) (g1 : Hd n1 c1) (hT : Tab w) : Calls Tryd.prog 6 #[.agg v.cells, .slice A1 n1 c1] w fun e w' => e = .returned (.bool true) ∧ Below w.heap.size w w' := by
  have hTp := hT.pos
  have b0 : Below w.heap.size w (w.alloc (.cells v.cells 38)) := below_lit _ _ (Below.refl _ _) _
  have HSH := Lib.hid (shown_c (w.alloc (.cells v.cells 38)) (hT.call b0 hTp))
  have HTT := Lib.hid fun (W : World) (bW : Below w.heap.size w W) => hT.call bW hTp
  have HA := Lib.hid fun (W : World) (bW : Below w.heap.size w W) => h.call bW
  have HR1 := Lib.hid fun (W : World) (bW : Below w.heap.size w W) => h1.call bW
  have HL1 := Lib.hid h1.len
  obtain ⟨m1, hm1⟩ : ∃ m : Nat, m = min n1 20 := ⟨_, rfl⟩
  have m1a : min (n1 : Int) 20 = (m1 : Int) := by omega
  have m1b : (if (20 : Int) < (n1 : Int) then (20 : Int) else (n1 : Int)) = (m1 : Int) := by split <;> omega
  have m1z : (0 : Int) ≤ (m1 : Int) := by omega
  have m1c : (m1 : Int) ≤ (c1 : Int) := by have := g1.1; omega
  have m1d : c1 ≤ 9223372036854775807 := g1.2
  have m1k : m1 ≤ 20 := by omega
  have HM1 := Lib.hid hm1
  clear h hT h1 hm1 g1
  have kx0 := Bk.new w 38 #[.slice v.ca v.cn v.cc, .slice v.fa v.fn v.fc, .slice v.ba v.bn v.bc, .slice v.ea v.en v.ec, .slice v.ga v.gn v.gc]
  have gx0 : w.heap.size < (w.alloc (.cells #[.slice v.ca v.cn v.cc, .slice v.fa v.fn v.fc, .slice v.ba v.bn v.bc, .slice v.ea v.en v.ec, .slice v.ga v.gn v.gc] 38)).heap.size := kx0.lt
  unfold AV.cells at *
  go_enter Tryd.func6, Tryd.ntmps6
  go_wp2_with fail
  refine HSH.out.mono ?_
  rintro e w1 ⟨rfl, bn⟩
  have b1 := below_call b0 bn
  have kx1 := kx0.below bn kx0.lt
  have gx1 := kx1.lt
  have HF := Lib.hid (few_c v a w1 (HA.out w1 b1))
  clear HSH HA b0 kx0 gx0 bn
  unfold AV.cells at *
  have x0 := box_cells kx1 0 rfl
  have x1 := box_cells kx1 1 rfl
  have x2 := box_cells kx1 2 rfl
  have x3 := box_cells kx1 3 rfl
  have x4 := box_cells kx1 4 rfl
  go_wp2_with fail
  refine HF.out.mono ?_
  rintro e w2 ⟨u, rfl, hA2, bn⟩
  have b2 := below_call b1 bn
  have kx2 := kx1.below bn kx1.lt
  clear x0 x1 x2 x3 x4
  have x0 := box_cells kx2 0 rfl
  have xf0 := kx2.frozen 0
  have x1 := box_cells kx2 1 rfl
  have xf1 := kx2.frozen 1
  have x2 := box_cells kx2 2 rfl
  have xf2 := kx2.frozen 2
  have x3 := box_cells kx2 3 rfl
  have xf3 := kx2.frozen 3
  have x4 := box_cells kx2 4 rfl
  have xf4 := kx2.frozen 4
  have kx3 := store5_bk kx2 (.slice u.ca u.cn u.cc) (.slice u.fa u.fn u.fc) (.slice u.ba u.bn u.bc) (.slice u.ea u.en u.ec) (.slice u.ga u.gn u.gc)
  have b3 := store5_below b2 (Nat.le_refl w.heap.size) (.slice u.ca u.cn u.cc) (.slice u.fa u.fn u.fc) (.slice u.ba u.bn u.bc) (.slice u.ea u.en u.ec) (.slice u.ga u.gn u.gc)
  have hk3 := store5_kept (S := fun _ => True) (W := w2) w.heap.size (.slice u.ca u.cn u.cc) (.slice u.fa u.fn u.fc) (.slice u.ba u.bn u.bc) (.slice u.ea u.en u.ec) (.slice u.ga u.gn u.gc)
  have hA3 := isA_fresh hA2 gx1 (fun b hb => hk3.1 b ⟨trivial, hb⟩) hk3.2
  unfold store5 at kx3 b3 hA3
  have K3 := Lib.hid kx3; have B3 := Lib.hid b3; have HA3 := Lib.hid hA3
  clear HF hk3 hA2 bn kx1 kx2 b1 b2 gx1 kx3 b3 hA3
  unfold AV.cells at *
  go_upto_region 3 with fail
  clear x0 xf0 x1 xf1 x2 xf2 x3 xf3 x4 xf4
  replace K3 := K3.out; replace B3 := B3.out; replace HA3 := HA3.out
  generalize (World.setCell _ _ _) = w3 at *
  have gx3 := K3.lt
  have q1 := rd_cut (HR1.out w3 B3) HM1.out
  have ba1 : Below w3.heap.size w3 (w3.alloc (.cells #[] 3)) := below_lit _ _ (Below.refl _ _) _
  have q1' := rd_cut (HR1.out (w3.alloc (.cells #[] 3)) (below_call B3 ba1)) HM1.out
  have Q1 := Lib.hid q1'; have BA1 := Lib.hid ba1
  clear q1 q1' ba1 HR1 HM1
  go_upto_region 4 with (at_builtin; refine appP elt_int rfl _ _ rfl (w3.alloc (.cells #[] 3)) w3.heap.size _ _ _ [] _ _ _ (ic (l1.take 20)) (by rfl) (by rfl) (Ow.empty _ _ _ _ (Nat.le_refl _)) Q1.out.1 Q1.out.2 (ic_one _) (by omega) (by simp) ?_; intro A1' c1' w4 o1 og ob oh; rw [List.nil_append, Nat.zero_add] at o1; rw [Nat.zero_add]; clear og oh)
  have bn := BA1.out.trans ob
  have hc1' := o1.hd
  clear m1a m1b m1z m1c m1d Q1 BA1 ob
  replace B3 := below_call B3 bn
  replace K3 := K3.below bn gx3
  replace HA3 := HA3.call bn
  replace gx3 := K3.lt
  clear bn
  have r1 := o1.rd
  have s1 : m1 ≤ 9223372036854775807 := by omega
  have hcp1 : m1 ≤ c1' := hc1'.1
  have hcp2 : c1' ≤ 9223372036854775807 := hc1'.2
  have HLT := Lib.hid (And.intro (fun l => HA3.fore_lt l) (fun l => HA3.back_lt l))
  have HLL := Lib.hid (show (l1.take 20).length = m1 from r1.len)
  clear o1 gx3 hc1'
  go_upto_region 7 with fail
  go_loopw [6, 7, 8] (fun fv bv iv wr => ∃ k : Nat, k ≤ m1 + 1 ∧ iv = .int .i64 k ∧ fv = .int .u64 (preF (fewA a) (l1.take 20) k : Int) ∧ bv = .int .u64 (preB (fewA a) (l1.take 20) k : Int) ∧ Below w.heap.size w wr ∧ Bk wr w.heap.size 38 #[.slice u.ca u.cn u.cc, .slice u.fa u.fn u.fc, .slice u.ba u.bn u.bc, .slice u.ea u.en u.ec, .slice u.ga u.gn u.gc] ∧ IsA wr (lo wr.heap.size) u (fewA a) ∧ Rd wr (lo wr.heap.size) A1' m1 (l1.take 20)) (fun _ _ iv _ => m1 + 1 - (intOf iv).toNat)
  case atStart => exact ⟨0, by omega, rfl, rfl, rfl, B3, K3, HA3, r1⟩
  case round =>
    clear B3 K3 HA3 r1
    obtain ⟨k, hk1, rfl, rfl, rfl, B3, K3, HA3, r1⟩ := hrel
    by_cases hk : k ≤ m1
    · have sk : k ≤ 9223372036854775807 := by omega
      have kz : (0 : Int) ≤ (k : Int) := by omega
      have kn : (k : Int) ≤ (m1 : Int) := by omega
      have kc : (k : Int) ≤ (c1' : Int) := by omega
      have e1 := more_eq (HLT.out.1 ((l1.take 20).take k)) (preF_lt HLT.out.1 (l1.take 20) k) (preF_and (fewA a) (l1.take 20) k)
      have e2 := more_eq (HLT.out.2 ((l1.take 20).take k)) (preB_lt HLT.out.2 (l1.take 20) k) (preB_and (fewA a) (l1.take 20) k)
      have E := Lib.hid (And.intro e1 e2)
      clear e1 e2
      go_upto_region 9 with fail
      have HS := Lib.hid fun (W : World) (bW : Below wr.heap.size wr W) => (show W.cell? ⟨w.heap.size, 0, none⟩ = some (.slice u.ca u.cn u.cc) ∧ W.cell? ⟨w.heap.size, 1, none⟩ = some (.slice u.fa u.fn u.fc) ∧ W.cell? ⟨w.heap.size, 2, none⟩ = some (.slice u.ba u.bn u.bc) ∧ W.cell? ⟨w.heap.size, 3, none⟩ = some (.slice u.ea u.en u.ec) ∧ W.cell? ⟨w.heap.size, 4, none⟩ = some (.slice u.ga u.gn u.gc) from ⟨(box_cells (K3.below bW K3.lt) 0 rfl), (box_cells (K3.below bW K3.lt) 1 rfl), (box_cells (K3.below bW K3.lt) 2 rfl), (box_cells (K3.below bW K3.lt) 3 rfl), (box_cells (K3.below bW K3.lt) 4 rfl)⟩)
      have bb := Below.refl wr.heap.size wr
      refine wp_region_held_drew (S := fun w' => w'.cell? ⟨w.heap.size, 0, none⟩ = some (.slice u.ca u.cn u.cc) ∧ w'.cell? ⟨w.heap.size, 1, none⟩ = some (.slice u.fa u.fn u.fc) ∧ w'.cell? ⟨w.heap.size, 2, none⟩ = some (.slice u.ba u.bn u.bc) ∧ w'.cell? ⟨w.heap.size, 3, none⟩ = some (.slice u.ea u.en u.ec) ∧ w'.cell? ⟨w.heap.size, 4, none⟩ = some (.slice u.ga u.gn u.gc)) (by kernel_rfl) ?_ (fun hHeld => ?_)
      · exact HS.out _ (below_drewN bb 1)
      replace bb := below_drewN bb 1
      change Below _ _ wr.drew at bb
      generalize hw0 : wr.drew = W0 at hHeld bb ⊢
      clear hw0
      refine wpAnyH_take (i := 0) (v := ?_) (by simp only [List.getElem?_toArray]; rfl) (by kernel_rfl) (by kernel_rfl) (by kernel_rfl) (by exact fun _ _ _ h => h) (Or.inl ⟨by rfl, ?_⟩) (by assumption) ?_
      rotate_left 1
      · intro w hSw; (try dsimp only at hSw); go_simp; try with_reducible rfl
      try conv => arg 8; simp only [Act.put, List.setIfInBounds_toArray, List.set_cons_zero, List.set_cons_succ]
      refine wpAnyH_take (i := 1) (v := ?_) (by simp only [List.getElem?_toArray]; rfl) (by kernel_rfl) (by kernel_rfl) (by kernel_rfl) (by exact fun _ _ _ h => h) (Or.inl ⟨by rfl, ?_⟩) (by assumption) ?_
      rotate_left 1
      · intro w hSw; (try dsimp only at hSw); go_simp; try with_reducible rfl
      try conv => arg 8; simp only [Act.put, List.setIfInBounds_toArray, List.set_cons_zero, List.set_cons_succ]
      refine wpAnyH_take (i := 2) (v := ?_) (by simp only [List.getElem?_toArray]; rfl) (by kernel_rfl) (by kernel_rfl) (by kernel_rfl) (by exact fun _ _ _ h => h) (Or.inl ⟨by rfl, ?_⟩) (by assumption) ?_
      rotate_left 1
      · intro w hSw; (try dsimp only at hSw); go_simp; try with_reducible rfl
      try conv => arg 8; simp only [Act.put, List.setIfInBounds_toArray, List.set_cons_zero, List.set_cons_succ]
      refine wpAnyH_take (i := 3) (v := ?_) (by simp only [List.getElem?_toArray]; rfl) (by kernel_rfl) (by kernel_rfl) (by kernel_rfl) (by exact fun _ _ _ h => h) (Or.inl ⟨by rfl, ?_⟩) (by assumption) ?_
      rotate_left 1
      · intro w hSw; (try dsimp only at hSw); go_simp; try with_reducible rfl
      try conv => arg 8; simp only [Act.put, List.setIfInBounds_toArray, List.set_cons_zero, List.set_cons_succ]
      refine wpAnyH_ready (rs := [4]) (by kernel_rfl) (by simp) ?_
      refine AllReadyH.cons (by simp only [List.getElem?_toArray]; rfl) (fun K hK => ?_) AllReadyH.nil
      refine wanted_pos (by kernel_rfl) ?_
      go_simp
      clear hHeld
      go_at_call 20
      (with_reducible refine (Fore_c u (fewA a) A1' k c1' ((l1.take 20).take k) W0 (HA3.call bb) (rd_take (r1.call bb) hk) sk).mono ?_)
      rintro e W1 ⟨rfl, bn⟩
      go_wp2_with fail
      refine hK.out _ _ ?_ (fun hHeld => ?_)
      · exact HS.out _ (bb.trans (bn.mono bb.size))
      clear hK K
      try conv => arg 8; simp only [Act.put, List.setIfInBounds_toArray, List.set_cons_zero, List.set_cons_succ]
      replace bb := bb.trans (bn.mono bb.size)
      clear bn
      refine wpAnyH_take (i := 5) (v := ?_) (by simp only [List.getElem?_toArray]; rfl) (by kernel_rfl) (by kernel_rfl) (by kernel_rfl) (by exact fun _ _ _ h => h) (Or.inl ⟨by rfl, ?_⟩) (by assumption) ?_
      rotate_left 1
      · intro w hSw; (try dsimp only at hSw); go_simp; try with_reducible rfl
      try conv => arg 8; simp only [Act.put, List.setIfInBounds_toArray, List.set_cons_zero, List.set_cons_succ]
      refine wpAnyH_done (by kernel_rfl) ?_ _
      go_wp2_with fail
      replace B3 := below_call B3 bb
      replace K3 := K3.below bb K3.lt
      replace HA3 := HA3.call bb
      replace r1 := r1.call bb
      clear bb HS

      go_upto_region 10 with fail
      have HS := Lib.hid fun (W : World) (bW : Below W1.heap.size W1 W) => (show W.cell? ⟨w.heap.size, 0, none⟩ = some (.slice u.ca u.cn u.cc) ∧ W.cell? ⟨w.heap.size, 1, none⟩ = some (.slice u.fa u.fn u.fc) ∧ W.cell? ⟨w.heap.size, 2, none⟩ = some (.slice u.ba u.bn u.bc) ∧ W.cell? ⟨w.heap.size, 3, none⟩ = some (.slice u.ea u.en u.ec) ∧ W.cell? ⟨w.heap.size, 4, none⟩ = some (.slice u.ga u.gn u.gc) from ⟨(box_cells (K3.below bW K3.lt) 0 rfl), (box_cells (K3.below bW K3.lt) 1 rfl), (box_cells (K3.below bW K3.lt) 2 rfl), (box_cells (K3.below bW K3.lt) 3 rfl), (box_cells (K3.below bW K3.lt) 4 rfl)⟩)
      have bb := Below.refl W1.heap.size W1
      refine wp_region_held_drew (S := fun w' => w'.cell? ⟨w.heap.size, 0, none⟩ = some (.slice u.ca u.cn u.cc) ∧ w'.cell? ⟨w.heap.size, 1, none⟩ = some (.slice u.fa u.fn u.fc) ∧ w'.cell? ⟨w.heap.size, 2, none⟩ = some (.slice u.ba u.bn u.bc) ∧ w'.cell? ⟨w.heap.size, 3, none⟩ = some (.slice u.ea u.en u.ec) ∧ w'.cell? ⟨w.heap.size, 4, none⟩ = some (.slice u.ga u.gn u.gc)) (by kernel_rfl) ?_ (fun hHeld => ?_)
      · exact HS.out _ (below_drewN bb 1)
      replace bb := below_drewN bb 1
      change Below _ _ W1.drew at bb
      generalize hw0 : W1.drew = W1' at hHeld bb ⊢
      clear hw0
      refine wpAnyH_take (i := 0) (v := ?_) (by simp only [List.getElem?_toArray]; rfl) (by kernel_rfl) (by kernel_rfl) (by kernel_rfl) (by exact fun _ _ _ h => h) (Or.inl ⟨by rfl, ?_⟩) (by assumption) ?_
      rotate_left 1
      · intro w hSw; (try dsimp only at hSw); go_simp; try with_reducible rfl
      try conv => arg 8; simp only [Act.put, List.setIfInBounds_toArray, List.set_cons_zero, List.set_cons_succ]
      refine wpAnyH_take (i := 1) (v := ?_) (by simp only [List.getElem?_toArray]; rfl) (by kernel_rfl) (by kernel_rfl) (by kernel_rfl) (by exact fun _ _ _ h => h) (Or.inl ⟨by rfl, ?_⟩) (by assumption) ?_
      rotate_left 1
      · intro w hSw; (try dsimp only at hSw); go_simp; try with_reducible rfl
      try conv => arg 8; simp only [Act.put, List.setIfInBounds_toArray, List.set_cons_zero, List.set_cons_succ]
      refine wpAnyH_take (i := 2) (v := ?_) (by simp only [List.getElem?_toArray]; rfl) (by kernel_rfl) (by kernel_rfl) (by kernel_rfl) (by exact fun _ _ _ h => h) (Or.inl ⟨by rfl, ?_⟩) (by assumption) ?_
      rotate_left 1
      · intro w hSw; (try dsimp only at hSw); go_simp; try with_reducible rfl
      try conv => arg 8; simp only [Act.put, List.setIfInBounds_toArray, List.set_cons_zero, List.set_cons_succ]
      refine wpAnyH_take (i := 3) (v := ?_) (by simp only [List.getElem?_toArray]; rfl) (by kernel_rfl) (by kernel_rfl) (by kernel_rfl) (by exact fun _ _ _ h => h) (Or.inl ⟨by rfl, ?_⟩) (by assumption) ?_
      rotate_left 1
      · intro w hSw; (try dsimp only at hSw); go_simp; try with_reducible rfl
      try conv => arg 8; simp only [Act.put, List.setIfInBounds_toArray, List.set_cons_zero, List.set_cons_succ]
      refine wpAnyH_ready (rs := [4]) (by kernel_rfl) (by simp) ?_
      refine AllReadyH.cons (by simp only [List.getElem?_toArray]; rfl) (fun K hK => ?_) AllReadyH.nil
      refine wanted_pos (by kernel_rfl) ?_
      go_simp
      clear hHeld
      go_at_call 19
      (with_reducible refine (Back_c u (fewA a) A1' k c1' ((l1.take 20).take k) W1' (HA3.call bb) (rd_take (r1.call bb) hk) sk).mono ?_)
      rintro e W2 ⟨rfl, bn⟩
      go_wp2_with fail
      refine hK.out _ _ ?_ (fun hHeld => ?_)
      · exact HS.out _ (bb.trans (bn.mono bb.size))
      clear hK K
      try conv => arg 8; simp only [Act.put, List.setIfInBounds_toArray, List.set_cons_zero, List.set_cons_succ]
      replace bb := bb.trans (bn.mono bb.size)
      clear bn
      refine wpAnyH_take (i := 5) (v := ?_) (by simp only [List.getElem?_toArray]; rfl) (by kernel_rfl) (by kernel_rfl) (by kernel_rfl) (by exact fun _ _ _ h => h) (Or.inl ⟨by rfl, ?_⟩) (by assumption) ?_
      rotate_left 1
      · intro w hSw; (try dsimp only at hSw); go_simp; try with_reducible rfl
      try conv => arg 8; simp only [Act.put, List.setIfInBounds_toArray, List.set_cons_zero, List.set_cons_succ]
      refine wpAnyH_done (by kernel_rfl) ?_ _
      obtain ⟨e1, e2⟩ := E.out
      clear E
      replace B3 := below_call B3 bb
      replace K3 := K3.below bb K3.lt
      replace HA3 := HA3.call bb
      replace r1 := r1.call bb
      clear bb HS

      go_wp2
      go_roundw
      case rel => exact ⟨k + 1, by omega, by go_num, rfl, rfl, B3, K3, HA3, r1⟩
      case measure => simp [intOf]; omega
    · have hke : k = m1 + 1 := by omega
      subst hke
      have kn : ¬ ((m1 : Int) + 1 ≤ (m1 : Int)) := by omega
      have HP := Lib.hid (show preF (fewA a) (l1.take 20) (m1 + 1) = foreA (fewA a) (l1.take 20) ∧ preB (fewA a) (l1.take 20) (m1 + 1) = backA (fewA a) (l1.take 20) from ⟨by show foreA _ _ = _; rw [List.take_of_length_le (by rw [HLL.out]; exact Nat.le_refl _)], by show backA _ _ = _; rw [List.take_of_length_le (by rw [HLL.out]; exact Nat.le_refl _)]⟩)
      rw [HP.out.1, HP.out.2]
      clear HP
      have hfl := HLT.out.1 (l1.take 20)
      have hbl := HLT.out.2 (l1.take 20)
      have hand := bits_and_u64_nat (foreA (fewA a) (l1.take 20)) (backA (fewA a) (l1.take 20)) hfl hbl
      have hcm := Nat.and_comm (foreA (fewA a) (l1.take 20)) (backA (fewA a) (l1.take 20))
      obtain ⟨both, hbo⟩ : ∃ x, backA (fewA a) (l1.take 20) &&& foreA (fewA a) (l1.take 20) = x := ⟨_, rfl⟩
      rw [hcm, hbo] at hand
      have hbol : both < 18446744073709551616 := by rw [← hbo]; exact Nat.lt_of_le_of_lt Nat.and_le_left hbl
      have HFC := Lib.hid (firstZ_cases hbol)
      have HC0 := Lib.hid (First_c u (fewA a) A1' A1' m1 c1' m1 c1' (l1.take 20) (l1.take 20) wr HA3 r1 r1 s1 s1 (HTT.out wr B3))
      rw [hbo] at HC0
      have HFO := Lib.hid fun (W : World) (hW : IsA W (lo W.heap.size) u (fewA a)) (rW : Rd W (lo W.heap.size) A1' m1 (l1.take 20)) => dFore_c u (fewA a) A1' m1 c1' (l1.take 20) W hW rW s1
      unfold AV.cells at HC0 HFO
      obtain ⟨fo, hfo⟩ : ∃ x, foreA (fewA a) (l1.take 20) = x := ⟨_, rfl⟩
      obtain ⟨ba, hba⟩ : ∃ x, backA (fewA a) (l1.take 20) = x := ⟨_, rfl⟩
      rw [hfo] at HFO
      rw [hfo, hba] at hand
      rw [hfo, hba]
      clear hfo hba hcm hfl hbl hbo hbol
      have x0 := box_cells K3 0 rfl
      have x1 := box_cells K3 1 rfl
      have x2 := box_cells K3 2 rfl
      have x3 := box_cells K3 3 rfl
      have x4 := box_cells K3 4 rfl
      go_wp2_with fail
      refine HC0.out.mono ?_
      rintro e w6 ⟨rfl, bn⟩
      clear HC0
      replace B3 := below_call B3 bn
      replace K3 := K3.below bn K3.lt
      replace HA3 := HA3.call bn
      replace r1 := r1.call bn
      clear bn x0 x1 x2 x3 x4
      have x0 := box_cells K3 0 rfl
      have x1 := box_cells K3 1 rfl
      have x2 := box_cells K3 2 rfl
      have x3 := box_cells K3 3 rfl
      have x4 := box_cells K3 4 rfl
      have HFO2 := Lib.hid (HFO.out w6 HA3 r1)
      clear HFO HA3 r1
      rcases HFC.out with ⟨hz, rfl⟩ | ⟨q, hq, hz, hbit⟩
      · rw [hz]
        clear HFC hz K3
        go_wp2_with fail
        refine HFO2.out.mono ?_
        rintro e w7 ⟨rfl, bn⟩
        replace B3 := below_call B3 bn
        clear HFO2 bn
        go_wp2
        go_ret
        exact ⟨rfl, B3⟩
      · rw [hz]
        have kz : (0 : Int) ≤ (q : Int) := by omega
        have kn : ¬ ((63 : Int) < (q : Int)) := by omega
        have km : (q : Int) % 18446744073709551616 = (q : Int) := by omega
        have h1 : (((both : Int) / 2 ^ q).tmod 2 == 0) = false := by
          rw [Int.tmod_eq_emod_of_nonneg (Int.ediv_nonneg (by omega) (Int.le_of_lt (Int.pow_pos (by omega))))]
          have h2 : (both : Int) / 2 ^ q % 2 = 1 := by exact_mod_cast hbit
          rw [h2]; rfl
        have HBT := Lib.hid hbit
        clear HFC hz K3 hbit
        go_wp2_with fail
        refine HFO2.out.mono ?_
        rintro e w7 ⟨rfl, bn⟩
        replace B3 := below_call B3 bn
        clear HFO2 bn
        go_wp2
        go_ret
        exact ⟨rfl, B3⟩


end Go.Proofs.YtgcmedkaadagmaaDoor
