/- Walks: the reference's Neighbour, Forms, Group, Cluster. -/
import Derived.Test.YtdacfcfgikllpaaW3
import Derived.Test.YtdacfcfgikllpaaSpec2
import Derived.Deep.Light
namespace Go.Proofs.Ytdacfcfgikllpaa
open Go.RowKit

set_option maxHeartbeats 400000 in
theorem next_c (A : Option Addr) (n c at_ : Nat) (xs : List Int) (w : World) (hA : Rd w w.heap.size A n xs) (hn : n ≤ 1000000) (hat : at_ < n) :
    Calls Try.prog 25 #[.slice A n c, .int .i64 at_, .int .i64 1] w fun e w' => e = .returned (.int .i64 (nextK (xs.drop (at_ + 1)))) ∧ w = w' := by
  have HL := Lib.hid hA.len
  obtain ⟨b, o, rfl, _, hc⟩ := hA.pos (by omega)
  have HC := Lib.hid hc; clear hc
  go_enter Try.func25, Try.ntmps25
  go_wp2
  go_loop [7] (fun i => ∃ k : Nat, k ≤ n ∧ i = .int .i64 k ∧ nextK (xs.drop (at_ + 1)) = nextK (xs.drop k)) (fun i => n - (intOf i).toNat)
  case atStart => exact ⟨at_ + 1, by omega, by go_num, rfl⟩
  case round =>
    obtain ⟨k, hk, rfl, hq⟩ := hrel
    have HQ := Lib.hid hq; clear hq
    by_cases hlt : k < n
    · obtain ⟨x, hx⟩ := getD_some xs k (by have := HL.out; omega)
      have c1 := HC.out k x hx
      have HX := Lib.hid hx; clear hx
      have hd := nextK_drop HX.out
      have HD := Lib.hid hd; clear hd
      by_cases h3 : kind x = 3
      · have H3 := Lib.hid h3
        go_wp2_with (go_at_call 13; refine (rkind_c _ _).mono ?_; rintro e w' ⟨rfl, rfl⟩)
        go_round
        case rel => exact ⟨k + 1, by omega, by go_num, by rw [HQ.out, HD.out, if_pos H3.out]⟩
        case measure => simp [intOf]; omega
      · have t3 : (kind x != 3) = true := by rw [bne_iff_ne]; exact h3
        have H3 := Lib.hid h3; clear h3
        go_wp2_with (go_at_call 13; refine (rkind_c _ _).mono ?_; rintro e w' ⟨rfl, rfl⟩)
        go_ret
        exact ⟨ret_int (by rw [HQ.out, HD.out, if_neg H3.out]), rfl⟩
    · go_wp2
      go_ret
      exact ⟨ret_int (by rw [HQ.out, nextK_end (by have := HL.out; omega)]), rfl⟩

set_option maxHeartbeats 400000 in
theorem prev_c (A : Option Addr) (n c at_ : Nat) (xs : List Int) (w : World) (hA : Rd w w.heap.size A n xs) (hn : n ≤ 1000000) (hat : at_ < n) :
    Calls Try.prog 25 #[.slice A n c, .int .i64 at_, .int .i64 (-1)] w fun e w' => e = .returned (.int .i64 (lastK 0 (xs.take at_))) ∧ w = w' := by
  have HL := Lib.hid hA.len
  obtain ⟨b, o, rfl, _, hc⟩ := hA.pos (by omega)
  have HC := Lib.hid hc; clear hc
  go_enter Try.func25, Try.ntmps25
  go_wp2
  go_loop [7] (fun i => ∃ k : Nat, k ≤ at_ ∧ i = .int .i64 ((k : Int) + -1) ∧ lastK 0 (xs.take at_) = lastK 0 (xs.take k)) (fun i => (intOf i + 1).toNat)
  case atStart => exact ⟨at_, by omega, by go_num, rfl⟩
  case round =>
    obtain ⟨k, hk, rfl, hq⟩ := hrel
    have HQ := Lib.hid hq; clear hq
    by_cases hlt : 0 < k
    · obtain ⟨j, rfl⟩ : ∃ j, k = j + 1 := ⟨k - 1, by omega⟩
      obtain ⟨x, hx⟩ := getD_some xs j (by have := HL.out; omega)
      have c1 := HC.out j x hx
      have HX := Lib.hid hx; clear hx
      have HD := Lib.hid (lastK_succ HX.out)
      have e0 : ((j + 1 : Nat) : Int) + -1 = (j : Int) := by omega
      rw [e0]
      by_cases h3 : kind x = 3
      · have H3 := Lib.hid h3
        clear e0
        go_wp2_with (go_at_call 13; refine (rkind_c _ _).mono ?_; rintro e w' ⟨rfl, rfl⟩)
        go_round
        case rel => exact ⟨j, by omega, by go_num, by rw [HQ.out, HD.out, if_pos H3.out]⟩
        case measure => simp [intOf]; omega
      · have t3 : (kind x != 3) = true := by rw [bne_iff_ne]; exact h3
        have H3 := Lib.hid h3; clear h3 e0
        go_wp2_with (go_at_call 13; refine (rkind_c _ _).mono ?_; rintro e w' ⟨rfl, rfl⟩)
        go_ret
        exact ⟨ret_int (by rw [HQ.out, HD.out, if_neg H3.out]), rfl⟩
    · obtain rfl : k = 0 := by omega
      go_wp2
      go_ret
      exact ⟨ret_int (by rw [HQ.out]; simp [lastK]), rfl⟩

set_option maxHeartbeats 2000000 in
theorem rforms_c (A : Option Addr) (n c : Nat) (xs : List Int) (w : World) (hA : Rd w w.heap.size A n xs) (hn : n ≤ 1000000) :
    Calls Try.prog 19 #[.slice A n c] w fun e w' => ∃ A' c', e = .returned (.slice A' n c') ∧ Ow w' w.heap.size A' n c' (forms xs) ∧ Below w.heap.size w w' := by
  have HL := Lib.hid hA.len
  go_enter Try.func19, Try.ntmps19
  go_wp2
  go_loopw [3, 4] (fun v i wr => ∃ (k : Nat) (g c' : Nat), k ≤ n ∧ i = .int .i64 k ∧ v = .slice (some ⟨g, 0, none⟩) k c' ∧ Ow wr w.heap.size (some ⟨g, 0, none⟩) k c' ((forms xs).take k) ∧ Below w.heap.size w wr) (fun _ i _ => n - (intOf i).toNat)
  case atStart => exact ⟨0, _, 0, by omega, rfl, rfl, own_empty w, (Below.refl _ _).alloc (Nat.le_refl _) _⟩
  case round =>
    obtain ⟨k, g, c', hk, rfl, rfl, hO, hB⟩ := hrel
    by_cases hlt : k < n
    · have hAr := (hA.below hB).more hB.size
      have HAR := Lib.hid hAr
      obtain ⟨b, o, rfl, hb, hc⟩ := hAr.pos (by omega)
      obtain ⟨x, hx⟩ := getD_some xs k (by have := HL.out; omega)
      have c1 := hc k x hx
      have HT := Lib.hid (forms_take_succ hx)
      clear hx hc
      generalize hp : lastK 0 (xs.take k) = p at HT
      generalize hq : nextK (xs.drop (k + 1)) = q at HT
      have HP := Lib.hid hp; have HQ := Lib.hid hq
      have prc := fun w0 h => prev_c (some ⟨b, o, none⟩) n c k xs w0 h hn hlt
      have nxc := fun w0 h => next_c (some ⟨b, o, none⟩) n c k xs w0 h hn hlt
      rw [hp] at prc
      rw [hq] at nxc
      clear hp hq
      have PRC := Lib.hid prc; have NXC := Lib.hid nxc; clear prc nxc
      have kb := kind_bd x
      have hsz := hB.size
      generalize hkx : kind x = kx at kb HT
      have HKX := Lib.hid hkx; clear hkx
      have kc := fun w0 => rkind_c x w0
      rw [HKX.out] at kc
      have KC := Lib.hid kc; clear kc
      have fin : ∀ (v : Int) (g2 c2 : Nat) (w2 : World), fm p kx q = v → Ow w2 w.heap.size (some ⟨g2, 0, none⟩) (k + 1) c2 ((forms xs).take k ++ [v]) → Ow w2 w.heap.size (some ⟨g2, 0, none⟩) (k + 1) c2 ((forms xs).take (k + 1)) := by
        intro v g2 c2 w2 hv ho; rw [HT.out, hv]; exact ho
      have FIN := Lib.hid fin; clear fin
      go_wp2_with (first | (go_at_call 13; refine (KC.out _).mono ?_; rintro e w' ⟨rfl, rfl⟩) | (go_at_call 25; (with_reducible refine (PRC.out _ HAR.out).mono ?_); rintro e w' ⟨rfl, rfl⟩) | (go_at_call 25; (with_reducible refine (NXC.out _ HAR.out).mono ?_); rintro e w' ⟨rfl, rfl⟩) | (at_builtin; refine app1 rfl _ _ rfl wr w.heap.size _ _ _ _ _ (by rfl) (by rfl) hO (by omega) hsz ?_; intro g2 c2 w2 ho2 hg2 hb2 hat2 hcap2))
      all_goals
        go_roundw
        case rel =>
          refine ⟨k + 1, g2, c2, by omega, by go_num, rfl, FIN.out _ _ _ _ ?_ ho2, hB.trans hb2⟩
          go_light
          clear ho2 hg2 hb2 hat2 hcap2 hO hB FIN PRC NXC KC HP HQ HKX HT hA HAR c1
          (try simp only [bne_iff_ne, beq_iff_eq, bne_eq_false_iff_eq, beq_eq_false_iff_ne, ne_eq] at *)
          unfold fm
          omega
        case measure => simp [intOf]; omega
    · go_wp2
      go_ret
      obtain rfl : k = n := by omega
      refine ⟨_, _, rfl, ?_, hB⟩
      have e : (forms xs).take k = forms xs := List.take_of_length_le (by rw [forms_length, HL.out]; omega)
      rw [e] at hO
      exact hO

end Go.Proofs.Ytdacfcfgikllpaa
