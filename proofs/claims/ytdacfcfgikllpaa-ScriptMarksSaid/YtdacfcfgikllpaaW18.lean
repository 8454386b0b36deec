/- Walks: ScriptTells. -/
import Derived.Test.YtdacfcfgikllpaaW17
import Derived.Test.YtdacfcfgikllpaaLawA
namespace Go.Proofs.Ytdacfcfgikllpaa
open Go.RowKit

theorem Ow.call {w w' : World} {base n c : Nat} {A : Option Addr} {xs : List Int} (h : Ow w base A n c xs) (k : Below w.heap.size w w') : Ow w' base A n c xs := h.below k (Nat.le_refl _)

set_option maxHeartbeats 1000000 in
theorem scriptTells_walk (a0 : Option Addr) (len0 cap0 : Nat) (z0 : List Int) (w : World) (w0 : IsRow .i64 w a0 len0 cap0 z0) :
    Calls Try.prog 4 #[.slice a0 len0 cap0] w fun e w' => e = .returned (.bool true) ∧ Below w.heap.size w w' := by
  obtain ⟨r0, hlc, hcm⟩ := w0.rd
  go_enter Try.func4, Try.ntmps4
  go_wp2_with fail
  refine (lshown_c _).mono ?_
  rintro e w1 ⟨rfl, b1⟩
  have r1 := r0.call (Nat.le_refl _) b1
  clear r0
  go_wp2_with fail
  refine (cut_c _ _ _ _ _ r1 hlc hcm).mono ?_
  rintro e w2 ⟨A, c, rfl, ho, hb2⟩
  have b2 := below_call b1 hb2
  have r2 := ho.rd
  have hn : min len0 40 ≤ 40 := by omega
  generalize (z0.take len0).take 40 = xs at *
  generalize min len0 40 = n at *
  clear r1 b1 hb2 ho
  go_wp2_with fail
  refine (forms_c _ _ _ _ _ r2 (by omega)).mono ?_
  rintro e w3 ⟨A3, c3, rfl, ho3, hb3⟩
  have b3 := below_call b2 hb3
  have r3 := r2.call (Nat.le_refl _) hb3
  have q3 := ho3.rd
  clear b2 r2 hb3 ho3
  go_wp2_with fail
  refine (rforms_c _ _ _ _ _ r3 (by omega)).mono ?_
  rintro e w4 ⟨A4, c4, rfl, ho4, hb4⟩
  have b4 := below_call b3 hb4
  have r4 := r3.call (Nat.le_refl _) hb4
  have q4 := ho4.rd
  have p4 := q3.call (Nat.le_refl _) hb4
  clear b3 r3 hb4 ho4 q3
  go_wp2_with fail
  refine (same_b _ _ _ _ _ _ _ _ _ p4 q4 (by omega) (by omega)).mono ?_
  rintro e w5 ⟨rfl, hb5⟩
  have b5 := below_call b4 hb5
  have r5 := r4.call (Nat.le_refl _) hb5
  clear b4 r4 hb5 p4 q4
  go_wp2_with fail
  refine (clusters_c _ _ _ _ _ r5 hn).mono ?_
  rintro e w6 ⟨A6, m6, c6, rfl, hm6, ho6, hb6⟩
  have b6 := below_call b5 hb6
  have r6 := r5.call (Nat.le_refl _) hb6
  have q6 := ho6.rd
  clear b5 r5 hb6 ho6
  go_wp2_with fail
  refine (rclusters_c _ _ _ _ _ r6 (by omega)).mono ?_
  rintro e w7 ⟨A7, m7, c7, rfl, hm7, ho7, hb7⟩
  have b7 := below_call b6 hb7
  have r7 := r6.call (Nat.le_refl _) hb7
  have q7 := ho7.rd
  have p7 := q6.call (Nat.le_refl _) hb7
  rw [clusters_eq] at p7
  clear b6 r6 hb7 ho7 q6
  go_wp2_with fail
  refine (same_b _ _ _ _ _ _ _ _ _ p7 q7 (by omega) (by omega)).mono ?_
  rintro e w8 ⟨rfl, hb8⟩
  have b8 := below_call b7 hb8
  have r8 := r7.call (Nat.le_refl _) hb8
  clear b7 r7 hb8 p7 q7
  go_wp2_with fail
  refine (order_c _ _ _ _ _ r8 hn).mono ?_
  rintro e w9 ⟨A9, m9, c9, rfl, hm9, ho9, hb9⟩
  have b9 := below_call b8 hb9
  have r9 := r8.call (Nat.le_refl _) hb9
  have q9 := ho9.rd
  clear b8 r8 hb9 ho9
  go_wp2_with fail
  refine (rorder_c _ _ _ _ _ r9 (by omega)).mono ?_
  rintro e w10 ⟨A10, c10, rfl, ho10, hb10⟩
  have b10 := below_call b9 hb10
  have q10 := ho10.rd
  have p10 := q9.call (Nat.le_refl _) hb10
  unfold ints at p10
  rw [order_eq] at p10
  clear b9 r9 hb10 ho10 q9
  go_wp2_with fail
  refine (same_b _ _ _ _ _ _ _ _ _ p10 q10 (by omega) (by omega)).mono ?_
  rintro e w11 ⟨rfl, hb11⟩
  have b11 := below_call b10 hb11
  clear b10 hb11 p10 q10
  go_wp2
  go_ret
  exact ⟨by simp, b11⟩

end Go.Proofs.Ytdacfcfgikllpaa
