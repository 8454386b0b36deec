/- Walks: ScriptJoined. -/
import Derived.Test.YtdacfcfgikllpaaW18
namespace Go.Proofs.Ytdacfcfgikllpaa
open Go.RowKit

/-- Whether the last rune that is no mark, of the first k, is joined behind. -/
def opn (xs : List Int) (k : Nat) : Bool := decide (lastK 0 (xs.take k) = 2 ∧ (nextK (xs.drop k) = 1 ∨ nextK (xs.drop k) = 2))
theorem opn_zero (xs : List Int) : opn xs 0 = false := by simp [opn, lastK]
theorem opn_end (xs : List Int) (k : Nat) (h : xs.length ≤ k) : opn xs k = false := by simp [opn, nextK_end h]
theorem opn_mark {xs : List Int} {k : Nat} {x : Int} (hx : xs[k]? = some x) (h : kind x = 3) : opn xs (k + 1) = opn xs k := by
  unfold opn
  rw [lastK_succ hx, nextK_drop hx, if_pos h, if_pos h]
theorem opn_at {xs : List Int} {k : Nat} {x : Int} (hx : xs[k]? = some x) (h : kind x ≠ 3) : opn xs k = decide (lastK 0 (xs.take k) = 2 ∧ (kind x = 1 ∨ kind x = 2)) := by
  unfold opn
  rw [nextK_drop hx, if_neg h]
theorem opn_next {xs : List Int} {k : Nat} {x : Int} (hx : xs[k]? = some x) (h : kind x ≠ 3) : opn xs (k + 1) = decide (kind x = 2 ∧ (nextK (xs.drop (k + 1)) = 1 ∨ nextK (xs.drop (k + 1)) = 2)) := by
  unfold opn
  rw [lastK_succ hx, if_neg h]

set_option maxHeartbeats 2000000 in
theorem scriptJoined_walk (a0 : Option Addr) (len0 cap0 : Nat) (z0 : List Int) (w : World) (w0 : IsRow .i64 w a0 len0 cap0 z0) :
    Calls Try.prog 6 #[.slice a0 len0 cap0] w fun e w' => e = .returned (.bool true) ∧ Below w.heap.size w w' := by
  obtain ⟨r0, hlc, hcm⟩ := w0.rd
  go_enter Try.func6, Try.ntmps6
  go_wp2_with fail
  refine (lshown_c _).mono ?_
  rintro e w1 ⟨rfl, b1⟩
  have r1 := r0.call (Nat.le_refl _) b1
  clear r0
  go_wp2_with fail
  refine (cut_c _ _ _ _ _ r1 hlc hcm).mono ?_
  rintro e w2 ⟨A, c, rfl, ho, hb2⟩
  have b2 := below_call b1 hb2
  have r2 := ho.rd
  have hn : min len0 40 ≤ 40 := by omega
  generalize (z0.take len0).take 40 = xs at *
  generalize min len0 40 = n at *
  clear r1 b1 hb2 ho
  go_wp2_with fail
  refine (forms_c _ _ _ _ _ r2 (by omega)).mono ?_
  rintro e w3 ⟨A3, c3, rfl, ho3, hb3⟩
  have b3 := below_call b2 hb3
  have r3 := r2.call (Nat.le_refl _) hb3
  have q3 := ho3.rd
  have HB := Lib.hid b3
  have HL := Lib.hid r3.len
  clear b2 r2 hb3 ho3 b3
  go_wp2
  go_loop [5, 6] (fun o i => ∃ k : Nat, k ≤ n ∧ i = .int .i64 k ∧ o = .bool (opn xs k)) (fun _ i => n - (intOf i).toNat)
  case atStart => exact ⟨0, by omega, rfl, by rw [opn_zero]⟩
  case round =>
    obtain ⟨k, hk, rfl, rfl⟩ := hrel
    by_cases hlt : k < n
    · obtain ⟨bx, ox, rfl, _, hcx⟩ := r3.pos (by omega)
      obtain ⟨bf, of, rfl, _, hcf⟩ := q3.pos (by omega)
      obtain ⟨x, hx⟩ := getD_some xs k (by have := HL.out; omega)
      have c1 := hcx k x hx
      have hf := forms_at 0 hx
      have c2 := hcf k _ hf
      have HX := Lib.hid hx
      clear hcx hcf hf hx
      have kb := kind_bd x
      by_cases h3 : kind x = 3
      · have hm := opn_mark HX.out h3
        have HM := Lib.hid hm
        have hf0 : fm (lastK 0 (xs.take k)) (kind x) (nextK (xs.drop (k + 1))) = 0 := by simp [fm, h3]
        rw [hf0] at c2
        clear hm hf0
        go_wp2_with (go_at_call 12; refine (kind_c _ _).mono ?_; rintro e w' ⟨rfl, rfl⟩)
        go_round
        case rel => exact ⟨k + 1, by omega, by go_num, by rw [HM.out]⟩
        case measure => simp [intOf]; omega
      · have ha := opn_at HX.out h3
        have hnx := opn_next HX.out h3
        have t3 : (kind x == 3) = false := by rw [beq_eq_false_iff_ne]; exact h3
        have kc := fun w0 => kind_c x w0
        have KC := Lib.hid kc; clear kc
        clear h3
        by_cases hk1 : kind x = 1
        · skip
          by_cases hp : lastK 0 (xs.take k) = 2
          · by_cases hq : nextK (xs.drop (k + 1)) = 1 ∨ nextK (xs.drop (k + 1)) = 2
            · skip
              have e1 : opn xs k = true := by rw [ha]; simp [hk1, hp]
              have e2 : opn xs (k + 1) = false := by rw [hnx]; simp [hk1, hq]
              have hf0 : fm (lastK 0 (xs.take k)) (kind x) (nextK (xs.drop (k + 1))) = 4 := by simp [fm, hk1, hp, hq]
              rw [hf0] at c2
              have E2 := Lib.hid e2
              clear hf0 e2 ha hnx hp hq
              rw [e1]
              clear e1
              go_wp2_with (go_at_call 12; refine (KC.out _).mono ?_; rintro e w' ⟨rfl, rfl⟩)
              go_round
              case rel => exact ⟨k + 1, by omega, by go_num, by rw [E2.out]⟩
              case measure => simp [intOf]; omega
            · skip
              have e1 : opn xs k = true := by rw [ha]; simp [hk1, hp]
              have e2 : opn xs (k + 1) = false := by rw [hnx]; simp [hk1, hq]
              have hf0 : fm (lastK 0 (xs.take k)) (kind x) (nextK (xs.drop (k + 1))) = 4 := by simp [fm, hk1, hp, hq]
              rw [hf0] at c2
              have E2 := Lib.hid e2
              clear hf0 e2 ha hnx hp hq
              rw [e1]
              clear e1
              go_wp2_with (go_at_call 12; refine (KC.out _).mono ?_; rintro e w' ⟨rfl, rfl⟩)
              go_round
              case rel => exact ⟨k + 1, by omega, by go_num, by rw [E2.out]⟩
              case measure => simp [intOf]; omega
          · by_cases hq : nextK (xs.drop (k + 1)) = 1 ∨ nextK (xs.drop (k + 1)) = 2
            · skip
              have e1 : opn xs k = false := by rw [ha]; simp [hk1, hp]
              have e2 : opn xs (k + 1) = false := by rw [hnx]; simp [hk1, hq]
              have hf0 : fm (lastK 0 (xs.take k)) (kind x) (nextK (xs.drop (k + 1))) = 1 := by simp [fm, hk1, hp, hq]
              rw [hf0] at c2
              have E2 := Lib.hid e2
              clear hf0 e2 ha hnx hp hq
              rw [e1]
              clear e1
              go_wp2_with (go_at_call 12; refine (KC.out _).mono ?_; rintro e w' ⟨rfl, rfl⟩)
              go_round
              case rel => exact ⟨k + 1, by omega, by go_num, by rw [E2.out]⟩
              case measure => simp [intOf]; omega
            · skip
              have e1 : opn xs k = false := by rw [ha]; simp [hk1, hp]
              have e2 : opn xs (k + 1) = false := by rw [hnx]; simp [hk1, hq]
              have hf0 : fm (lastK 0 (xs.take k)) (kind x) (nextK (xs.drop (k + 1))) = 1 := by simp [fm, hk1, hp, hq]
              rw [hf0] at c2
              have E2 := Lib.hid e2
              clear hf0 e2 ha hnx hp hq
              rw [e1]
              clear e1
              go_wp2_with (go_at_call 12; refine (KC.out _).mono ?_; rintro e w' ⟨rfl, rfl⟩)
              go_round
              case rel => exact ⟨k + 1, by omega, by go_num, by rw [E2.out]⟩
              case measure => simp [intOf]; omega
        · by_cases hk2 : kind x = 2
          · have hk1 := hk2
            by_cases hp : lastK 0 (xs.take k) = 2
            · by_cases hq : nextK (xs.drop (k + 1)) = 1 ∨ nextK (xs.drop (k + 1)) = 2
              · skip
                have e1 : opn xs k = true := by rw [ha]; simp [hk1, hp]
                have e2 : opn xs (k + 1) = true := by rw [hnx]; simp [hk1, hq]
                have hf0 : fm (lastK 0 (xs.take k)) (kind x) (nextK (xs.drop (k + 1))) = 3 := by simp [fm, hk1, hp, hq]
                rw [hf0] at c2
                have E2 := Lib.hid e2
                clear hf0 e2 ha hnx hp hq hk2
                rw [e1]
                clear e1
                go_wp2_with (go_at_call 12; refine (KC.out _).mono ?_; rintro e w' ⟨rfl, rfl⟩)
                go_round
                case rel => exact ⟨k + 1, by omega, by go_num, by rw [E2.out]⟩
                case measure => simp [intOf]; omega
              · skip
                have e1 : opn xs k = true := by rw [ha]; simp [hk1, hp]
                have e2 : opn xs (k + 1) = false := by rw [hnx]; simp [hk1, hq]
                have hf0 : fm (lastK 0 (xs.take k)) (kind x) (nextK (xs.drop (k + 1))) = 4 := by simp [fm, hk1, hp, hq]
                rw [hf0] at c2
                have E2 := Lib.hid e2
                clear hf0 e2 ha hnx hp hq hk2
                rw [e1]
                clear e1
                go_wp2_with (go_at_call 12; refine (KC.out _).mono ?_; rintro e w' ⟨rfl, rfl⟩)
                go_round
                case rel => exact ⟨k + 1, by omega, by go_num, by rw [E2.out]⟩
                case measure => simp [intOf]; omega
            · by_cases hq : nextK (xs.drop (k + 1)) = 1 ∨ nextK (xs.drop (k + 1)) = 2
              · skip
                have e1 : opn xs k = false := by rw [ha]; simp [hk1, hp]
                have e2 : opn xs (k + 1) = true := by rw [hnx]; simp [hk1, hq]
                have hf0 : fm (lastK 0 (xs.take k)) (kind x) (nextK (xs.drop (k + 1))) = 2 := by simp [fm, hk1, hp, hq]
                rw [hf0] at c2
                have E2 := Lib.hid e2
                clear hf0 e2 ha hnx hp hq hk2
                rw [e1]
                clear e1
                go_wp2_with (go_at_call 12; refine (KC.out _).mono ?_; rintro e w' ⟨rfl, rfl⟩)
                go_round
                case rel => exact ⟨k + 1, by omega, by go_num, by rw [E2.out]⟩
                case measure => simp [intOf]; omega
              · skip
                have e1 : opn xs k = false := by rw [ha]; simp [hk1, hp]
                have e2 : opn xs (k + 1) = false := by rw [hnx]; simp [hk1, hq]
                have hf0 : fm (lastK 0 (xs.take k)) (kind x) (nextK (xs.drop (k + 1))) = 1 := by simp [fm, hk1, hp, hq]
                rw [hf0] at c2
                have E2 := Lib.hid e2
                clear hf0 e2 ha hnx hp hq hk2
                rw [e1]
                clear e1
                go_wp2_with (go_at_call 12; refine (KC.out _).mono ?_; rintro e w' ⟨rfl, rfl⟩)
                go_round
                case rel => exact ⟨k + 1, by omega, by go_num, by rw [E2.out]⟩
                case measure => simp [intOf]; omega
          · have t1 : (kind x == 1) = false := by rw [beq_eq_false_iff_ne]; exact hk1
            have t2 : (kind x == 2) = false := by rw [beq_eq_false_iff_ne]; exact hk2
            have hk3 : ¬ (kind x = 1 ∨ kind x = 2) := by omega
            by_cases hp : lastK 0 (xs.take k) = 2
            · by_cases hq : nextK (xs.drop (k + 1)) = 1 ∨ nextK (xs.drop (k + 1)) = 2
              · skip
                have e1 : opn xs k = false := by rw [ha]; simp [hk3]
                have e2 : opn xs (k + 1) = false := by rw [hnx]; simp [hk2]
                have hf0 : fm (lastK 0 (xs.take k)) (kind x) (nextK (xs.drop (k + 1))) = 0 := by simp [fm, hk3]
                rw [hf0] at c2
                have E2 := Lib.hid e2
                clear hf0 e2 ha hnx hp hq
                rw [e1]
                clear e1
                go_wp2_with (go_at_call 12; refine (KC.out _).mono ?_; rintro e w' ⟨rfl, rfl⟩)
                go_round
                case rel => exact ⟨k + 1, by omega, by go_num, by rw [E2.out]⟩
                case measure => simp [intOf]; omega
              · skip
                have e1 : opn xs k = false := by rw [ha]; simp [hk3]
                have e2 : opn xs (k + 1) = false := by rw [hnx]; simp [hk2]
                have hf0 : fm (lastK 0 (xs.take k)) (kind x) (nextK (xs.drop (k + 1))) = 0 := by simp [fm, hk3]
                rw [hf0] at c2
                have E2 := Lib.hid e2
                clear hf0 e2 ha hnx hp hq
                rw [e1]
                clear e1
                go_wp2_with (go_at_call 12; refine (KC.out _).mono ?_; rintro e w' ⟨rfl, rfl⟩)
                go_round
                case rel => exact ⟨k + 1, by omega, by go_num, by rw [E2.out]⟩
                case measure => simp [intOf]; omega
            · by_cases hq : nextK (xs.drop (k + 1)) = 1 ∨ nextK (xs.drop (k + 1)) = 2
              · skip
                have e1 : opn xs k = false := by rw [ha]; simp [hk3]
                have e2 : opn xs (k + 1) = false := by rw [hnx]; simp [hk2]
                have hf0 : fm (lastK 0 (xs.take k)) (kind x) (nextK (xs.drop (k + 1))) = 0 := by simp [fm, hk3]
                rw [hf0] at c2
                have E2 := Lib.hid e2
                clear hf0 e2 ha hnx hp hq
                rw [e1]
                clear e1
                go_wp2_with (go_at_call 12; refine (KC.out _).mono ?_; rintro e w' ⟨rfl, rfl⟩)
                go_round
                case rel => exact ⟨k + 1, by omega, by go_num, by rw [E2.out]⟩
                case measure => simp [intOf]; omega
              · skip
                have e1 : opn xs k = false := by rw [ha]; simp [hk3]
                have e2 : opn xs (k + 1) = false := by rw [hnx]; simp [hk2]
                have hf0 : fm (lastK 0 (xs.take k)) (kind x) (nextK (xs.drop (k + 1))) = 0 := by simp [fm, hk3]
                rw [hf0] at c2
                have E2 := Lib.hid e2
                clear hf0 e2 ha hnx hp hq
                rw [e1]
                clear e1
                go_wp2_with (go_at_call 12; refine (KC.out _).mono ?_; rintro e w' ⟨rfl, rfl⟩)
                go_round
                case rel => exact ⟨k + 1, by omega, by go_num, by rw [E2.out]⟩
                case measure => simp [intOf]; omega
    · have e1 := opn_end xs k (by have := HL.out; omega)
      rw [e1]
      clear e1
      go_wp2
      go_ret
      exact ⟨rfl, HB.out⟩

end Go.Proofs.Ytdacfcfgikllpaa
