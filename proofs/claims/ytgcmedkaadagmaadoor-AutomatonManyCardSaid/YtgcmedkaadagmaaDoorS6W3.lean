/- Walks: Right and its twin, set, Has and its twin. -/
import Derived.Test.YtgcmedkaadagmaaDoorS6LawA
namespace Go.Proofs.YtgcmedkaadagmaaDoor.S6
open Go.RowKit

theorem srt_one (xs : List Int) : Srt (xs.take 1) := by cases xs <;> simp [Srt]
theorem srt_step {xs : List Int} {p : Nat} {x y : Int} (h : Srt (xs.take (p + 1))) (hx : xs[p]? = some x) (hy : xs[p + 1]? = some y) (hxy : x < y) : Srt (xs.take (p + 2)) := by
  have e : xs.take (p + 2) = xs.take (p + 1) ++ [y] := by rw [List.take_add_one, hy]; rfl
  rw [e]
  refine srt_snoc h fun z hz => ?_
  obtain ⟨i, hi, rfl⟩ := List.mem_iff_getElem.1 hz
  have hx2 : (xs.take (p + 1))[p]? = some x := by rw [List.getElem?_take_of_lt (by omega)]; exact hx
  by_cases e : i = p
  · subst e
    have := List.getElem?_eq_getElem hi
    rw [this] at hx2; injection hx2 with hx2; omega
  · have := srt_at h (i := i) (j := p) (by simp at hi; omega) (List.getElem?_eq_getElem hi) hx2
    omega

set_option maxHeartbeats 400000 in
theorem right_c (A : Option Addr) (n c : Nat) (xs : List Int) (w : World) (hA : Rd w w.heap.size A n xs) (hn : n ≤ 1000000000) :
    Calls Tryd.prog 84 #[.slice A n c] w fun e w' => e = .returned (.bool (decide (Srt xs))) ∧ ∃ k, w' = w.drewN k := by
  have HL := Lib.hid hA.len
  go_enter Tryd.func84, Tryd.ntmps84
  go_wp2
  go_loopw [3] (fun i wr => ∃ q d : Nat, i = .int .i64 q ∧ 1 ≤ q ∧ (q ≤ n ∨ q = 1) ∧ Srt (xs.take q) ∧ wr = w.drewN d) (fun i _ => n - (intOf i).toNat)
  case atStart => exact ⟨1, 0, rfl, by omega, by omega, srt_one xs, rfl⟩
  case round =>
    obtain ⟨q, d, rfl, hq1, hq2, hs, rfl⟩ := hrel
    have HS := Lib.hid hs; clear hs
    by_cases hlt : q < n
    · obtain ⟨p, rfl⟩ : ∃ p, q = p + 1 := ⟨q - 1, by omega⟩
      obtain ⟨b1, o1, rfl, _, hc1⟩ := hA.pos (by omega)
      obtain ⟨x, hx⟩ := getD_some xs p (by have := HL.out; omega)
      obtain ⟨y, hy⟩ := getD_some xs (p + 1) (by have := HL.out; omega)
      have g1 := hc1 p x hx
      have g2 := hc1 (p + 1) y hy
      have HX := Lib.hid hx; have HY := Lib.hid hy
      clear hx hy hc1 hq2
      have p0 : (0 : Int) ≤ (p : Int) := by omega
      have pn : (p : Int) < (n : Int) := by omega
      have p1n : (p : Int) + 1 < (n : Int) := by omega
      have pwr : IntKind.i64.wrap ((p : Int) + 1 - 1) = (p : Int) := by rw [IntWalk.i64_in _ (by omega)]; omega
      have PWR := Lib.hid pwr; clear pwr
      by_cases hxy : x < y
      · have t : decide (y ≤ x) = false := by simp; omega
        go_wp2
        go_quiet (fail)
        go_wp2
        go_roundw
        case rel => exact ⟨p + 2, d + nq, by go_num, by omega, by omega, srt_step HS.out HX.out HY.out hxy, by simp⟩
        case measure => simp [intOf]; omega
      · have t : decide (y ≤ x) = true := by simp; omega
        go_wp2
        go_quiet (fail)
        go_wp2
        go_ret
        refine ⟨ret_bool ?_, drN _ _ _⟩
        symm; rw [decide_eq_false_iff_not]
        intro h
        have := srt_at h (by omega) HX.out HY.out
        omega
    · go_wp2
      go_ret
      refine ⟨ret_bool ?_, d, rfl⟩
      have e1 : xs.take q = xs := List.take_of_length_le (by have := HL.out; omega)
      have := HS.out
      rw [e1] at this
      simp [this]

theorem right_b (A : Option Addr) (n c : Nat) (xs : List Int) (w : World) (hA : Rd w w.heap.size A n xs) (hn : n ≤ 1000000000) :
    Calls Tryd.prog 84 #[.slice A n c] w fun e w' => e = .returned (.bool (decide (Srt xs))) ∧ Below w.heap.size w w' :=
  (right_c A n c xs w hA hn).mono fun e w' ⟨he, k, hk⟩ => ⟨he, by rw [hk]; exact below_drewN (Below.refl _ _) k⟩

/-- A row as a set: read, wherever it lies. -/
theorem set_c (A : Option Addr) (n c : Nat) (xs : List Int) (w : World) (hA : Rd w w.heap.size A n xs) (hn : n ≤ 1000000) :
    Calls Tryd.prog 57 #[.slice A n c] w fun e w' => ∃ A' m c', e = .returned (.slice A' m c') ∧ m ≤ n ∧ Rd w' w'.heap.size A' m (ofL xs) ∧ Below w.heap.size w w' := by
  by_cases hs : Srt xs
  · have e := ofL_of_srt hs
    have t : decide (Srt xs) = true := decide_eq_true hs
    have HE := Lib.hid e
    clear e hs
    go_enter Tryd.func57, Tryd.ntmps57
    go_wp2_with fail
    refine (right_b _ _ _ _ _ hA (by omega)).mono ?_
    rintro e w1 ⟨rfl, hb1⟩
    have r1 := hA.call (Nat.le_refl _) hb1
    go_wp2
    go_ret
    exact ⟨_, _, _, rfl, Nat.le_refl _, by rw [HE.out]; exact r1, hb1⟩
  · have t : decide (Srt xs) = false := decide_eq_false hs
    clear hs
    go_enter Tryd.func57, Tryd.ntmps57
    go_wp2_with fail
    refine (right_b _ _ _ _ _ hA (by omega)).mono ?_
    rintro e w1 ⟨rfl, hb1⟩
    have r1 := hA.call (Nat.le_refl _) hb1
    clear hA
    go_wp2_with fail
    refine (of_c _ _ _ _ _ r1 hn).mono ?_
    rintro e w2 ⟨A2, m2, c2, rfl, hm2, ho2, hb2⟩
    have r2 := ho2.rd
    have b2 := below_call hb1 hb2
    go_wp2
    go_ret
    exact ⟨_, _, _, rfl, hm2, r2, b2⟩

set_option maxHeartbeats 400000 in
theorem rhas_c (A : Option Addr) (n c : Nat) (xs : List Int) (x : Int) (w : World) (hA : Rd w w.heap.size A n xs) (hn : n ≤ 1000000) :
    Calls Tryd.prog 21 #[.slice A n c, .int .i64 x] w fun e w' => e = .returned (.bool (decide (x ∈ xs))) ∧ w = w' := by
  have HL := Lib.hid hA.len
  go_enter Tryd.func21, Tryd.ntmps21
  go_wp2
  go_loop [5] (fun i => ∃ k : Nat, k ≤ n ∧ i = .int .i64 k ∧ ∀ y ∈ xs.take k, y ≠ x) (fun i => n - (intOf i).toNat)
  case atStart => exact ⟨0, by omega, rfl, by simp⟩
  case round =>
    obtain ⟨k, hk, rfl, hs⟩ := hrel
    have HS := Lib.hid hs; clear hs
    by_cases hlt : k < n
    · obtain ⟨b1, o1, rfl, _, hc1⟩ := hA.pos (by omega)
      obtain ⟨y, hy⟩ := getD_some xs k (by have := HL.out; omega)
      have g1 := hc1 k y hy
      have HY := Lib.hid hy
      clear hy hc1
      have k0 : (0 : Int) ≤ (k : Int) := by omega
      have kn : (k : Int) < (n : Int) := by omega
      by_cases hxy : y = x
      · subst hxy
        go_wp2
        go_ret
        refine ⟨ret_bool ?_, rfl⟩
        have := List.mem_of_getElem? HY.out
        simp [this]
      · have t : (y == x) = false := by rw [beq_eq_false_iff_ne]; exact hxy
        go_wp2
        go_round
        case rel =>
          refine ⟨k + 1, by omega, by go_num, ?_⟩
          rw [List.take_add_one, HY.out]
          intro z hz
          rcases List.mem_append.1 hz with h | h
          · exact HS.out z h
          · simp at h; subst h; exact hxy
        case measure => simp [intOf]; omega
    · go_wp2
      go_ret
      refine ⟨ret_bool ?_, rfl⟩
      have e1 : xs.take k = xs := List.take_of_length_le (by have := HL.out; omega)
      have := HS.out
      rw [e1] at this
      symm; rw [decide_eq_false_iff_not]
      exact fun h => this x h rfl

end Go.Proofs.YtgcmedkaadagmaaDoor.S6
