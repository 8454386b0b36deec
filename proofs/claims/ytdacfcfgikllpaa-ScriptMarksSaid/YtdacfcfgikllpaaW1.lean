/- Walks: Kind, Class, their twins of the reference, Same, cut. -/
import Derived.Test.YtdacfcfgikllpaaBase
import Derived.Test.YtdacfcfgikllpaaSpec
import Derived.Deep.QuietTactic
import Derived.BigQuiet
import Derived.Laws.BitsAllLaws
import Derived.Laws.BitsLemmas
namespace Go.Proofs.Ytdacfcfgikllpaa
open Go.RowKit

theorem ret_int {k : IntKind} {a b : Int} (h : a = b) : Ending.returned (.int k a) = .returned (.int k b) := by rw [h]
theorem ret_bool {a b : Bool} (h : a = b) : Ending.returned (.bool a) = .returned (.bool b) := by rw [h]

set_option maxHeartbeats 400000 in
theorem kind_c (r : Int) (w : World) :
    Calls Try.prog 12 #[.int .i64 r] w fun e w' => e = .returned (.int .i64 (kind r)) ∧ w = w' := by
  go_enter Try.func12, Try.ntmps12
  go_wp2
  all_goals (go_ret; refine ⟨?_, rfl⟩; unfold kind; simp; omega)

set_option maxHeartbeats 400000 in
theorem rkind_c (r : Int) (w : World) :
    Calls Try.prog 13 #[.int .i64 r] w fun e w' => e = .returned (.int .i64 (kind r)) ∧ w = w' := by
  go_enter Try.func13, Try.ntmps13
  go_wp2
  go_loop [3] (fun i => ∃ k : Nat, k ≤ 5 ∧ i = .int .i64 k ∧ (∀ j : Nat, j < k → ¬ (57344 + 256 * (j : Int) ≤ r ∧ r ≤ 57344 + 256 * (j : Int) + 255))) (fun i => 5 - (intOf i).toNat)
  case atStart => exact ⟨0, by omega, rfl, fun j hj => absurd hj (by omega)⟩
  case round =>
    obtain ⟨k, hk, rfl, hno⟩ := hrel
    have HN := Lib.hid hno; clear hno
    by_cases hlt : k < 5
    · go_wp2
      · go_ret
        refine ⟨ret_int ?_, rfl⟩
        unfold kind
        omega
      all_goals
        go_round
        case rel =>
          refine ⟨k + 1, by omega, by go_num, fun j hj => ?_⟩
          by_cases e : j = k
          · subst e; omega
          · exact HN.out j (by omega)
        case measure => simp [intOf]; omega
    · go_wp2
      go_ret
      refine ⟨ret_int ?_, rfl⟩
      have h0 := HN.out 0 (by omega)
      have h1 := HN.out 1 (by omega)
      have h2 := HN.out 2 (by omega)
      have h3 := HN.out 3 (by omega)
      have h4 := HN.out 4 (by omega)
      unfold kind
      omega

theorem and15 (r : Int) (h1 : 57856 ≤ r) (h2 : r ≤ 58111) : bits .and .i64 r 15 = r % 16 := by
  obtain ⟨n, rfl⟩ : ∃ n : Nat, r = n := ⟨r.toNat, by omega⟩
  show IntKind.i64.wrap ((BitVec.ofInt 64 (n : Int) &&& BitVec.ofInt 64 (15 : Int)).toNat : Int) = _
  have e1 : (BitVec.ofInt 64 (n : Int)).toNat = n := by rw [BitVec.ofInt_natCast, BitVec.toNat_ofNat]; exact Nat.mod_eq_of_lt (by omega)
  have e2 : (BitVec.ofInt 64 (15 : Int)).toNat = 15 := by decide
  rw [BitVec.toNat_and, e1, e2, IntKind.wrap_i64]
  have : n &&& 15 = n % 16 := Nat.and_two_pow_sub_one_eq_mod n 4
  rw [this]
  omega

set_option maxHeartbeats 400000 in
theorem class_c (r : Int) (w : World) :
    Calls Try.prog 14 #[.int .i64 r] w fun e w' => e = .returned (.int .i64 (cls r)) ∧ w = w' := by
  by_cases h : 57856 ≤ r ∧ r ≤ 58111
  · have hk : kind r = 3 := by unfold kind; omega
    have hc : cls r = r % 16 := by unfold cls; omega
    have ha := and15 r h.1 h.2
    have HA := Lib.hid ha; have HC := Lib.hid hc; clear ha hc
    go_enter Try.func14, Try.ntmps14
    go_wp2_with (go_at_call 12; refine (kind_c _ _).mono ?_; rintro e w' ⟨rfl, rfl⟩)
    go_ret
    exact ⟨ret_int (by rw [HC.out, ← HA.out]), rfl⟩
  · have hk : (kind r == 3) = false := by rw [beq_eq_false_iff_ne]; unfold kind; omega
    have hk' : (kind r != 3) = true := by rw [bne_iff_ne]; unfold kind; omega
    have hc : cls r = 0 := by unfold cls; omega
    have HC := Lib.hid hc; clear hc
    go_enter Try.func14, Try.ntmps14
    go_wp2_with (go_at_call 12; refine (kind_c _ _).mono ?_; rintro e w' ⟨rfl, rfl⟩)
    go_ret
    exact ⟨ret_int (by rw [HC.out]), rfl⟩

set_option maxHeartbeats 400000 in
theorem rclass_c (r : Int) (w : World) :
    Calls Try.prog 15 #[.int .i64 r] w fun e w' => e = .returned (.int .i64 (cls r)) ∧ w = w' := by
  by_cases h : 57856 ≤ r ∧ r ≤ 58111
  · have hk : kind r = 3 := by unfold kind; omega
    have hc : cls r = r % 16 := by unfold cls; omega
    have HC := Lib.hid hc; clear hc
    obtain ⟨h1, h2⟩ := h
    go_enter Try.func15, Try.ntmps15
    go_wp2_with (go_at_call 13; refine (rkind_c _ _).mono ?_; rintro e w' ⟨rfl, rfl⟩)
    go_ret
    exact ⟨ret_int (by rw [HC.out]), rfl⟩
  · have hk : (kind r == 3) = false := by rw [beq_eq_false_iff_ne]; unfold kind; omega
    have hc : cls r = 0 := by unfold cls; omega
    have HC := Lib.hid hc; clear hc
    go_enter Try.func15, Try.ntmps15
    go_wp2_with (go_at_call 13; refine (rkind_c _ _).mono ?_; rintro e w' ⟨rfl, rfl⟩)
    go_ret
    exact ⟨ret_int (by rw [HC.out]), rfl⟩

end Go.Proofs.Ytdacfcfgikllpaa
