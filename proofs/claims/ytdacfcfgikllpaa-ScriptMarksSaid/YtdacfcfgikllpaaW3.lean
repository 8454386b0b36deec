/- Walks: join, Forms. -/
import Derived.Test.YtdacfcfgikllpaaW2
namespace Go.Proofs.Ytdacfcfgikllpaa
open Go.RowKit

set_option maxHeartbeats 1000000 in
theorem join_c (A : Option Addr) (n c d : Nat) (xs fs : List Int) (g a b : Nat) (x y : Int) (w : World) (base : Nat) (hA : Rd w base A n xs) (hO : Ow w base (some ⟨g, 0, none⟩) n d fs) (hn : n ≤ 1000000)
    (hab : a < b) (hbn : b < n) (hx : xs[a]? = some x) (hy : xs[b]? = some y) :
    Calls Try.prog 24 #[.slice A n c, .slice (some ⟨g, 0, none⟩) n d, .int .i64 a, .int .i64 b] w fun e w' => e = .returned (.tuple #[]) ∧ Ow w' base (some ⟨g, 0, none⟩) n d (joinF (kind x) (kind y) fs a b) ∧ w.grownBy w' (some g) := by
  obtain ⟨ba, oa, rfl, hlt, hc⟩ := hA.pos (by omega)
  have c1 := hc a x hx
  have c2 := hc b y hy
  have hfl := hO.len
  obtain ⟨u, hu⟩ := getD_some fs a (by omega)
  obtain ⟨v, hv⟩ := getD_some fs b (by omega)
  have c3 := hO.cell hu
  have c4 := hO.cell hv
  have f3 := hO.frozen a
  have f4 := hO.frozen b
  have k1 := kind_bd x
  have k2 := kind_bd y
  have HU := Lib.hid hu
  clear hx hy hu hv hc hfl
  have ha0 : (0 : Int) ≤ (a : Int) := by omega
  have han : (a : Int) < (n : Int) := by omega
  have hb0 : (0 : Int) ≤ (b : Int) := by omega
  have hbn' : (b : Int) < (n : Int) := by omega
  have hne : ¬ a = b := by omega
  by_cases hj : kind x = 2 ∧ (kind y = 1 ∨ kind y = 2)
  · obtain ⟨hj1, hj2⟩ := hj
    have t1 : (kind x != 2) = false := by simp [hj1]
    have hO2 : ∀ q, Ow ((w.drewN q).setCell ⟨g, b, none⟩ (.int .i64 4)) base (some ⟨g, 0, none⟩) n d (fs.set b 4) := fun q => (hO.drewN q).stored b 4
    have c5 : ∀ q, ((w.drewN q).setCell ⟨g, b, none⟩ (.int .i64 4)).cell? ⟨g, a, none⟩ = some (.int .i64 u) := fun q => (hO2 q).cell (by rw [List.getElem?_set_ne (by omega)]; exact HU.out)
    have HJ1 := Lib.hid hj1; clear hj1
    by_cases hu4 : u = 4
    · subst hu4
      rcases hj2 with hy1 | hy1
      all_goals
        have HY := Lib.hid hy1
        go_enter Try.func24, Try.ntmps24
        go_wp2
        go_quiet ((go_at_call 12; exact quiet_left (kind_c _ _)))
        go_wp2
        go_end0
        refine ⟨rfl, ?_, ?_⟩
        · unfold joinF
          rw [if_pos ⟨HJ1.out, by have := HY.out; omega⟩, if_pos HU.out]
          exact (hO2 _).stored a 3
        · exact grownBy_set (grownBy_set (grownBy_drewN (World.grownBy.refl w _) _) b _) a _
    · have hu4' : (u == 4) = false := by rw [beq_eq_false_iff_ne]; exact hu4
      rcases hj2 with hy1 | hy1
      all_goals
        have HY := Lib.hid hy1
        go_enter Try.func24, Try.ntmps24
        go_wp2
        go_quiet ((go_at_call 12; exact quiet_left (kind_c _ _)))
        go_wp2
        go_end0
        refine ⟨rfl, ?_, ?_⟩
        · unfold joinF
          rw [if_pos ⟨HJ1.out, by have := HY.out; omega⟩, if_neg (by rw [HU.out]; simp; exact hu4)]
          exact (hO2 _).stored a 2
        · exact grownBy_set (grownBy_set (grownBy_drewN (World.grownBy.refl w _) _) b _) a _
  · have hjf : joinF (kind x) (kind y) fs a b = fs := by unfold joinF; rw [if_neg hj]
    rw [hjf]
    clear hjf
    by_cases h2 : kind x = 2
    · have t1 : (kind y != 1) = true := by rw [bne_iff_ne]; omega
      have t2 : (kind y != 2) = true := by rw [bne_iff_ne]; omega
      clear hj
      go_enter Try.func24, Try.ntmps24
      go_wp2
      go_quiet ((go_at_call 12; exact quiet_left (kind_c _ _)))
      go_wp2
      refine bodyPost_ret (results_none rfl _ _ _) rfl ?_
      exact ⟨rfl, hO.drewN _, grownBy_drewN (World.grownBy.refl w _) _⟩
    · have t1 : (kind x != 2) = true := by rw [bne_iff_ne]; omega
      clear hj
      go_enter Try.func24, Try.ntmps24
      go_wp2
      go_quiet ((go_at_call 12; exact quiet_left (kind_c _ _)))
      go_wp2
      refine bodyPost_ret (results_none rfl _ _ _) rfl ?_
      exact ⟨rfl, hO.drewN _, grownBy_drewN (World.grownBy.refl w _) _⟩

set_option maxHeartbeats 1000000 in
theorem forms_c (A : Option Addr) (n c : Nat) (xs : List Int) (w : World) (hA : Rd w w.heap.size A n xs) (hn : n ≤ 1000000) :
    Calls Try.prog 18 #[.slice A n c] w fun e w' => ∃ A' c', e = .returned (.slice A' n c') ∧ Ow w' w.heap.size A' n c' (forms xs) ∧ Below w.heap.size w w' := by
  have hl := hA.len
  have HL := Lib.hid hl; clear hl
  go_enter Try.func18, Try.ntmps18
  go_wp2_with (at_make; refine mkI rfl _ _ rfl w w.heap.size n _ _ (by rfl) (by rfl) rfl rfl hn (Nat.le_refl _) ?_; intro w1 ho1 hb1 hz1)
  go_loopw [4, 13] (fun z i wr => ∃ (k : Nat) (zz : Int), k ≤ n ∧ i = .int .i64 k ∧ z = .int .i64 zz ∧ Ah xs k zz ∧ Ow wr w.heap.size (some ⟨w.heap.size, 0, none⟩) n n (fpre xs k) ∧ Below w.heap.size w wr) (fun _ i _ => n - (intOf i).toNat)
  case atStart =>
    refine ⟨0, -1, by omega, rfl, rfl, .inl ⟨rfl, fun m hm => by simp at hm⟩, ?_, hb1⟩
    rw [fpre_zero, HL.out]; exact ho1
  case round =>
    obtain ⟨k, zz, hk, rfl, rfl, hah, hO, hB⟩ := hrel
    clear ho1 hb1 hz1
    have HAH := Lib.hid hah
    by_cases hlt : k < n
    · obtain ⟨ba, oa, rfl, hba, hcell⟩ := (hA.below hB).pos (by omega)
      obtain ⟨x, hx⟩ := getD_some xs k (by have := HL.out; omega)
      have c1 := hcell k x hx
      have HX := Lib.hid hx
      have hfr := hO.frozen k
      obtain ⟨u, hu⟩ := getD_some (fpre xs k) k (by rw [hO.len]; omega)
      have c2 := hO.cell hu
      have kb := kind_bd x
      clear hx hcell hu
      by_cases h3 : kind x = 3
      · have H3 := Lib.hid h3
        clear hah
        go_wp2_with (go_at_call 12; refine (kind_c _ _).mono ?_; rintro e w' ⟨rfl, rfl⟩)
        go_roundw
        case rel =>
          refine ⟨k + 1, zz, by omega, by go_num, rfl, Ah_mark HAH.out HX.out H3.out, ?_, hB⟩
          rw [fpre_step_mark HX.out H3.out]; exact hO
        case measure => simp [intOf]; omega
      · have t3 : (kind x == 3) = false := by rw [beq_eq_false_iff_ne]; exact h3
        have H3 := Lib.hid h3
        rcases hah with ⟨rfl, hall⟩ | ⟨f, y, rfl, hf, hy, hyk, hm⟩
        · have HALL := Lib.hid hall; clear hall
          by_cases h12 : kind x = 1 ∨ kind x = 2
          · have hst := fpre_step_none HX.out HALL.out
            rw [if_pos h12] at hst
            have HST := Lib.hid hst; clear hst
            rcases h12 with h12 | h12
            all_goals
              have H12 := Lib.hid h12
              have t4 : (kind x == 1) = decide (kind x = 1) := rfl
              go_wp2_with (go_at_call 12; refine (kind_c _ _).mono ?_; rintro e w' ⟨rfl, rfl⟩)
              go_roundw
              case rel =>
                refine ⟨k + 1, k, by omega, by go_num, by go_num, Ah_self HX.out H3.out, ?_, hB.setCell (by simp) _⟩
                rw [HST.out]; exact hO.stored k 1
              case measure => simp [intOf]; omega
          · have hst := fpre_step_none HX.out HALL.out
            rw [if_neg h12] at hst
            have HST := Lib.hid hst; clear hst
            have t4 : (kind x == 1) = false := by rw [beq_eq_false_iff_ne]; omega
            have t5 : (kind x == 2) = false := by rw [beq_eq_false_iff_ne]; omega
            clear h12
            go_wp2_with (go_at_call 12; refine (kind_c _ _).mono ?_; rintro e w' ⟨rfl, rfl⟩)
            go_roundw
            case rel =>
              refine ⟨k + 1, k, by omega, by go_num, by go_num, Ah_self HX.out H3.out, ?_, hB⟩
              rw [HST.out]; exact hO
            case measure => simp [intOf]; omega
        · have HY := Lib.hid hy
          have hst := fpre_step_some HX.out H3.out hf hy hyk hm
          clear hm hy hyk
          by_cases h12 : kind x = 1 ∨ kind x = 2
          · rw [if_pos h12] at hst
            have HST := Lib.hid hst; clear hst
            have hO2 : Ow (wr.setCell ⟨w.heap.size, k, none⟩ (.int .i64 1)) w.heap.size (some ⟨w.heap.size, 0, none⟩) n n ((fpre xs k).set k 1) := hO.stored k 1
            have hB2 : Below w.heap.size w (wr.setCell ⟨w.heap.size, k, none⟩ (.int .i64 1)) := hB.setCell (by simp) _
            rcases h12 with h12 | h12
            all_goals
              go_wp2_with (first | (go_at_call 12; refine (kind_c _ _).mono ?_; rintro e w' ⟨rfl, rfl⟩) | (go_at_call 24; refine (join_c _ _ _ _ xs _ _ f k y x _ w.heap.size (hA.below hB2) hO2 hn hf hlt HY.out HX.out).mono ?_; rintro e w3 ⟨rfl, ho3, hg3⟩))
              go_roundw
              case rel =>
                refine ⟨k + 1, k, by omega, by go_num, by go_num, Ah_self HX.out H3.out, ?_, hB2.grown hg3 hB2.size (fun q hq => by cases hq; omega)⟩
                rw [HST.out]; exact ho3
              case measure => simp [intOf]; omega
          · rw [if_neg h12] at hst
            have HST := Lib.hid hst; clear hst
            have t4 : (kind x == 1) = false := by rw [beq_eq_false_iff_ne]; omega
            have t5 : (kind x == 2) = false := by rw [beq_eq_false_iff_ne]; omega
            clear h12
            go_wp2_with (first | (go_at_call 12; refine (kind_c _ _).mono ?_; rintro e w' ⟨rfl, rfl⟩) | (go_at_call 24; refine (join_c _ _ _ _ xs _ _ f k y x _ w.heap.size (hA.below hB) hO hn hf hlt HY.out HX.out).mono ?_; rintro e w3 ⟨rfl, ho3, hg3⟩))
            go_roundw
            case rel =>
              refine ⟨k + 1, k, by omega, by go_num, by go_num, Ah_self HX.out H3.out, ?_, hB.grown hg3 hB.size (fun q hq => by cases hq; omega)⟩
              rw [HST.out]; exact ho3
            case measure => simp [intOf]; omega
    · clear hah
      go_wp2
      go_ret
      obtain rfl : k = n := by omega
      refine ⟨_, _, rfl, ?_, hB⟩
      have := fpre_all xs
      rw [HL.out] at this
      rw [← this]; exact hO

end Go.Proofs.Ytdacfcfgikllpaa
