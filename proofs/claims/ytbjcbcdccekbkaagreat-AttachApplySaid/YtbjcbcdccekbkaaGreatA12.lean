/- Walks: Same of the document; the font of the examples. -/
import Derived.Test.YtbjcbcdccekbkaaGreatA11
import Derived.Laws.StructEq
namespace Go.Proofs.YtbjcbcdccekbkaaGreat
open Go.RowKit Go.Shelf

theorem item_guard : Tryz.prog.eqGuardType Tryz.prog.depth 57 = false := by kernel_rfl
theorem item_beq (x y : Itm) : (x.g == y.g && (x.c == y.c && (x.f == y.f && (x.a == y.a && (x.x == y.x && x.y == y.y))))) = decide (x = y) := by
  rw [Bool.eq_iff_iff]
  obtain ⟨a1, a2, a3, a4, a5, a6⟩ := x
  obtain ⟨b1, b2, b3, b4, b5, b6⟩ := y
  simp
theorem item_eq (w : World) (x y : Itm) : (Op.equalIn 10000 57 (.agg #[.int .i64 x.g, .int .i64 x.c, .int .i64 x.f, .int .i64 x.a, .int .i64 x.x, .int .i64 x.y]) (.agg #[.int .i64 y.g, .int .i64 y.c, .int .i64 y.f, .int .i64 y.a, .int .i64 y.x, .int .i64 y.y])).run Tryz.prog w = .ok (decide (x = y)) w := by
  rw [← item_beq]
  rw [show (10000 : Nat) = 9998 + 1 + 1 from rfl, run_equalIn_struct w _ _ _ _ (by kernel_rfl) (by kernel_rfl)]
  have hf : (Tryz.prog.fieldsOf 57).toList = (match Tryz.prog.underlying 57 with | some (.struct fs) => fs.toList | _ => []) := by kernel_rfl
  rw [hf, Tryz.underlying57]
  have e1 : ∀ (a b : Int) (w : World), (Op.equalIn (9998 + 1) 3 (.int .i64 a) (.int .i64 b)).run Tryz.prog w = .ok (a == b) w := fun a b w => run_equalIn_int w 9998 3 .i64 .i64 _ _ Tryz.underlying3
  simp [Op.eqFields, part, isAgg, run_underlying Tryz.underlying3, e1]
  clear hf e1
  (repeat' split) <;> simp_all
theorem take_snoc {α : Type} {xs ys : List α} (k : Nat) (x : α) (hx : xs[k]? = some x) (hy : ys[k]? = some x) (h : xs.take k = ys.take k) : xs.take (k + 1) = ys.take (k + 1) := by
  rw [List.take_add_one, List.take_add_one, hx, hy, h]

set_option maxRecDepth 100000 in
set_option maxHeartbeats 800000 in
theorem same_c (A A' : Option Addr) (n m c d : Nat) (xs ys : List Itm) (w : World) (hA : RdI w (lo w.heap.size) A n xs) (hB : RdI w (lo w.heap.size) A' m ys) (hn : n ≤ 1000000000) (hm : m ≤ 1000000000) :
    Calls Tryz.prog 7 #[.slice A n c, .slice A' m d] w fun e w' => e = .returned (.bool (decide (xs = ys))) ∧ Below w.heap.size w w' := by
  by_cases hnm : n = m
  · subst hnm
    have hl1 := Lib.hid hA.len
    have hl2 := Lib.hid hB.len
    go_enter Tryz.func7, Tryz.ntmps7
    go_wp2
    go_loopw [5] (fun i wr => ∃ k d : Nat, k ≤ n ∧ i = .int .i64 k ∧ xs.take k = ys.take k ∧ wr = w.drewN d) (fun i _ => n - (intOf i).toNat)
    case atStart => exact ⟨0, 0, by omega, rfl, rfl, rfl⟩
    case round =>
      obtain ⟨k, d, hk, rfl, ht, rfl⟩ := hrel
      have HT := Lib.hid ht; clear ht
      by_cases hlt : k < n
      · obtain ⟨b1, o1, rfl, _, hc1⟩ := hA.pos (by omega)
        obtain ⟨b2, o2, rfl, _, hc2⟩ := hB.pos (by omega)
        obtain ⟨x, hx⟩ := at_some xs k (by rw [hl1.out]; exact hlt)
        obtain ⟨y, hy⟩ := at_some ys k (by rw [hl2.out]; exact hlt)
        obtain ⟨cs, rfl, hcc⟩ := hc1 k x hx
        obtain ⟨cs, rfl, hdd⟩ := hc2 k y hy
        have g0 := hcc 0 _ rfl
        have g1 := hcc 1 _ rfl
        have g2 := hcc 2 _ rfl
        have g3 := hcc 3 _ rfl
        have g4 := hcc 4 _ rfl
        have g5 := hcc 5 _ rfl
        have k0 := hdd 0 _ rfl
        have k1 := hdd 1 _ rfl
        have k2 := hdd 2 _ rfl
        have k3 := hdd 3 _ rfl
        have k4 := hdd 4 _ rfl
        have k5 := hdd 5 _ rfl
        rw [Nat.add_zero] at g0 k0
        have hkz : (0 : Int) ≤ (k : Int) := by omega
        have hkn : (k : Int) < (n : Int) := by omega
        have hpg := item_guard
        have hpe := fun w0 => item_eq w0 x y
        have HX := Lib.hid hx; have HY := Lib.hid hy
        clear hx hy hc1 hc2 hcc hdd
        by_cases hxy : x = y
        · have t1 : decide (x = y) = true := by simp [hxy]
          rw [t1] at hpe
          have HXY := Lib.hid hxy
          clear hxy t1
          go_wp2
          go_quiet (fail)
          go_wp2
          go_roundw
          case rel => exact ⟨k + 1, d + nq, by omega, by go_num, take_snoc k _ HX.out (by rw [HXY.out]; exact HY.out) HT.out, by simp⟩
          case measure => simp [intOf]; omega
        · have t1 : decide (x = y) = false := by simp [hxy]
          have hne : decide (xs = ys) = false := by
            rw [decide_eq_false_iff_not]; rintro rfl
            have := HX.out; rw [HY.out] at this; injection this with this
            exact hxy this.symm
          have HNE := Lib.hid hne
          rw [t1] at hpe
          clear hne hxy t1
          go_wp2
          go_quiet (fail)
          go_wp2
          go_ret
          exact ⟨ret_bool HNE.out.symm, below_drewN (below_drewN (Below.refl _ _) _) _⟩
      · have hge : decide ((k : Int) < (n : Int)) = false := by simp; omega
        have hfin : decide (xs = ys) = true := by
          rw [decide_eq_true_iff]
          have := HT.out
          rw [List.take_of_length_le (by rw [hl1.out]; omega), List.take_of_length_le (by rw [hl2.out]; omega)] at this
          exact this
        have HF := Lib.hid hfin
        clear hfin
        go_wp2
        go_ret
        exact ⟨ret_bool HF.out.symm, below_drewN (Below.refl _ _) _⟩
  · have hne : decide (xs = ys) = false := by
      rw [decide_eq_false_iff_not]; rintro rfl
      exact hnm (hA.len.symm.trans hB.len)
    have HNE := Lib.hid hne
    have e1 : ((n : Int) != (m : Int)) = true := by simp; omega
    clear hne
    go_enter Tryz.func7, Tryz.ntmps7
    go_wp2
    go_ret
    exact ⟨ret_bool HNE.out.symm, Below.refl _ _⟩

end Go.Proofs.YtbjcbcdccekbkaaGreat
