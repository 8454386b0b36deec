/- Walks: SetsAll (printed by tools/c06_w15.py). -/
import Derived.Test.YtladdpfngoldcaaW14
namespace Go.Proofs.Ytladdpfngoldcaa
open Go.RowKit

theorem rright_b (A : Option Addr) (n c : Nat) (xs : List Int) (w : World) (hA : Rd w w.heap.size A n xs) (hn : n ≤ 1000000000) :
    Calls Try.prog 31 #[.slice A n c] w fun e w' => e = .returned (.bool (decide (Srt xs))) ∧ Below w.heap.size w w' :=
  (rright_c A n c xs w hA hn).mono fun e w' ⟨he, k, hk⟩ => ⟨he, by rw [hk]; exact below_drewN (Below.refl _ _) k⟩

set_option maxRecDepth 100000 in
set_option maxHeartbeats 2000000 in
theorem setsAll_walk (a0 : Option Addr) (len0 cap0 : Nat) (z0 : List Int) (a1 : Option Addr) (len1 cap1 : Nat) (z1 : List Int) (a2 : Int) (w : World) (w0 : IsRow .i64 w a0 len0 cap0 z0) (w1 : IsRow .i64 w a1 len1 cap1 z1) (_w2 : (Lit.int .i64 a2).wf = true) :
    Calls Try.prog 12 #[.slice a0 len0 cap0, .slice a1 len1 cap1, .int .i64 a2] w fun e w' => e = .returned (.bool true) ∧ Below w.heap.size w w' := by
  obtain ⟨p0, hlc0, hcm0⟩ := w0.rd
  obtain ⟨p1, hlc1, hcm1⟩ := w1.rd
  clear w0 w1
  have b0 := Below.refl w.heap.size w
  go_enter Try.func12, Try.ntmps12
  go_wp2_with fail
  refine (lshown_c _  ).mono ?_
  rintro e w1 ⟨rfl, hb1⟩
  have b1 := below_call b0 hb1
  have p01 := p0.call (Nat.le_refl _) hb1
  have p11 := p1.call (Nat.le_refl _) hb1
  clear b0 hb1 p0 p1
  go_wp2_with fail
  refine (few_c _ _ _ _ _ p01 hlc0 hcm0).mono ?_
  rintro e w2 ⟨A2, cp2, rfl, ho2, hb2⟩
  have b2 := below_call b1 hb2
  have p02 := p01.call (Nat.le_refl _) hb2
  have p12 := p11.call (Nat.le_refl _) hb2
  have x2 := ho2.rd
  clear b1 hb2 p01 p11 ho2 p02
  go_wp2_with fail
  refine (few_c _ _ _ _ _ p12 hlc1 hcm1).mono ?_
  rintro e w3 ⟨A3, cp3, rfl, ho3, hb3⟩
  have b3 := below_call b2 hb3
  have p13 := p12.call (Nat.le_refl _) hb3
  have x3 := x2.call (Nat.le_refl _) hb3
  have y3 := ho3.rd
  clear b2 hb3 p12 x2 ho3 p13
  have n0 : min len0 40 ≤ 40 := by omega
  generalize (z0.take len0).take 40 = X at *
  generalize min len0 40 = nx at *
  have n1 : min len1 40 ≤ 40 := by omega
  generalize (z1.take len1).take 40 = Y at *
  generalize min len1 40 = ny at *
  go_wp2_with fail
  refine (of_c _ _ _ _ _ x3 (by omega)).mono ?_
  rintro e w4 ⟨A4, ln4, cp4, rfl, hm4, ho4, hb4⟩
  have b4 := below_call b3 hb4
  have x4 := x3.call (Nat.le_refl _) hb4
  have y4 := y3.call (Nat.le_refl _) hb4
  have u4 := ho4.rd
  clear b3 hb4 x3 y3 ho4
  go_wp2_with fail
  refine (rof_c _ _ _ _ _ x4 (by omega)).mono ?_
  rintro e w5 ⟨A5, ln5, cp5, rfl, hm5, ho5, hb5⟩
  have b5 := below_call b4 hb5
  have x5 := x4.call (Nat.le_refl _) hb5
  have y5 := y4.call (Nat.le_refl _) hb5
  have u5 := u4.call (Nat.le_refl _) hb5
  have v5 := ho5.rd
  clear b4 hb5 x4 y4 u4 ho5
  go_wp2_with fail
  refine (same_b _ _ _ _ _ _ _ _ _ u5 v5 (by omega) (by omega)).mono ?_
  rintro e w6 ⟨he, hb6⟩
  have b6 := below_call b5 hb6
  have x6 := x5.call (Nat.le_refl _) hb6
  have y6 := y5.call (Nat.le_refl _) hb6
  have u6 := u5.call (Nat.le_refl _) hb6
  have v6 := v5.call (Nat.le_refl _) hb6
  rw [decide_eq_true (by rfl)] at he
  subst he
  clear b5 hb6 x5 y5 u5 v5
  clear u6 v6
  obtain ⟨S, hS⟩ : ∃ S, decide (Srt X) = S := ⟨_, rfl⟩
  have HS := Lib.hid hS
  clear hS
  go_wp2_with fail
  refine (right_b _ _ _ _ _ x6 (by omega)).mono ?_
  rintro e w7 ⟨he, hb7⟩
  have b7 := below_call b6 hb7
  have x7 := x6.call (Nat.le_refl _) hb7
  have y7 := y6.call (Nat.le_refl _) hb7
  rw [HS.out] at he
  subst he
  clear b6 hb7 x6 y6
  go_wp2_with fail
  refine (rright_b _ _ _ _ _ x7 (by omega)).mono ?_
  rintro e w8 ⟨he, hb8⟩
  have b8 := below_call b7 hb8
  have x8 := x7.call (Nat.le_refl _) hb8
  have y8 := y7.call (Nat.le_refl _) hb8
  rw [HS.out] at he
  subst he
  clear b7 hb8 x7 y7
  obtain ⟨T, hT⟩ : ∃ T, decide (a2 ∈ X) = T := ⟨_, rfl⟩
  have HT := Lib.hid hT
  clear hT
  go_wp2_with fail
  refine (has_c _ _ _ _ _ _ x8 (by omega)).mono ?_
  rintro e w' ⟨he, rfl⟩
  rw [HT.out] at he
  subst he
  go_wp2_with fail
  refine (rhas_c _ _ _ _ _ _ x8 (by omega)).mono ?_
  rintro e w' ⟨he, rfl⟩
  rw [HT.out] at he
  subst he
  go_wp2_with fail
  refine (union_c _ _ _ _ _ _ _ _ _ x8 y8 (by omega) (by omega)).mono ?_
  rintro e w9 ⟨A9, ln9, cp9, rfl, hm9, ho9, hb9⟩
  have b9 := below_call b8 hb9
  have x9 := x8.call (Nat.le_refl _) hb9
  have y9 := y8.call (Nat.le_refl _) hb9
  have u9 := ho9.rd
  clear b8 hb9 x8 y8 ho9
  go_wp2_with fail
  refine (runion_c _ _ _ _ _ _ _ _ _ x9 y9 (by omega) (by omega)).mono ?_
  rintro e w10 ⟨A10, ln10, cp10, rfl, hm10, ho10, hb10⟩
  have b10 := below_call b9 hb10
  have x10 := x9.call (Nat.le_refl _) hb10
  have y10 := y9.call (Nat.le_refl _) hb10
  have u10 := u9.call (Nat.le_refl _) hb10
  have v10 := ho10.rd
  clear b9 hb10 x9 y9 u9 ho10
  go_wp2_with fail
  refine (same_b _ _ _ _ _ _ _ _ _ u10 v10 (by omega) (by omega)).mono ?_
  rintro e w11 ⟨he, hb11⟩
  have b11 := below_call b10 hb11
  have x11 := x10.call (Nat.le_refl _) hb11
  have y11 := y10.call (Nat.le_refl _) hb11
  have u11 := u10.call (Nat.le_refl _) hb11
  have v11 := v10.call (Nat.le_refl _) hb11
  rw [decide_eq_true (by rfl)] at he
  subst he
  clear b10 hb11 x10 y10 u10 v10
  clear u11 v11
  go_wp2_with fail
  refine (meet_c _ _ _ _ _ _ _ _ _ x11 y11 (by omega) (by omega)).mono ?_
  rintro e w12 ⟨A12, ln12, cp12, rfl, hm12, ho12, hb12⟩
  have b12 := below_call b11 hb12
  have x12 := x11.call (Nat.le_refl _) hb12
  have y12 := y11.call (Nat.le_refl _) hb12
  have u12 := ho12.rd
  clear b11 hb12 x11 y11 ho12
  go_wp2_with fail
  refine (rmeet_c _ _ _ _ _ _ _ _ _ x12 y12 (by omega) (by omega)).mono ?_
  rintro e w13 ⟨A13, ln13, cp13, rfl, hm13, ho13, hb13⟩
  have b13 := below_call b12 hb13
  have x13 := x12.call (Nat.le_refl _) hb13
  have y13 := y12.call (Nat.le_refl _) hb13
  have u13 := u12.call (Nat.le_refl _) hb13
  have v13 := ho13.rd
  clear b12 hb13 x12 y12 u12 ho13
  go_wp2_with fail
  refine (same_b _ _ _ _ _ _ _ _ _ u13 v13 (by omega) (by omega)).mono ?_
  rintro e w14 ⟨he, hb14⟩
  have b14 := below_call b13 hb14
  have x14 := x13.call (Nat.le_refl _) hb14
  have y14 := y13.call (Nat.le_refl _) hb14
  have u14 := u13.call (Nat.le_refl _) hb14
  have v14 := v13.call (Nat.le_refl _) hb14
  rw [decide_eq_true (by rfl)] at he
  subst he
  clear b13 hb14 x13 y13 u13 v13
  clear u14 v14
  go_wp2_with fail
  refine (minus_c _ _ _ _ _ _ _ _ _ x14 y14 (by omega) (by omega)).mono ?_
  rintro e w15 ⟨A15, ln15, cp15, rfl, hm15, ho15, hb15⟩
  have b15 := below_call b14 hb15
  have x15 := x14.call (Nat.le_refl _) hb15
  have y15 := y14.call (Nat.le_refl _) hb15
  have u15 := ho15.rd
  clear b14 hb15 x14 y14 ho15
  go_wp2_with fail
  refine (rminus_c _ _ _ _ _ _ _ _ _ x15 y15 (by omega) (by omega)).mono ?_
  rintro e w16 ⟨A16, ln16, cp16, rfl, hm16, ho16, hb16⟩
  have b16 := below_call b15 hb16
  have x16 := x15.call (Nat.le_refl _) hb16
  have y16 := y15.call (Nat.le_refl _) hb16
  have u16 := u15.call (Nat.le_refl _) hb16
  have v16 := ho16.rd
  clear b15 hb16 x15 y15 u15 ho16
  go_wp2_with fail
  refine (same_b _ _ _ _ _ _ _ _ _ u16 v16 (by omega) (by omega)).mono ?_
  rintro e w17 ⟨he, hb17⟩
  have b17 := below_call b16 hb17
  have x17 := x16.call (Nat.le_refl _) hb17
  have y17 := y16.call (Nat.le_refl _) hb17
  have u17 := u16.call (Nat.le_refl _) hb17
  have v17 := v16.call (Nat.le_refl _) hb17
  rw [decide_eq_true (by rfl)] at he
  subst he
  clear b16 hb17 x16 y16 u16 v16
  clear u17 v17
  obtain ⟨R, hR⟩ : ∃ R, decide (siftL X Y false = []) = R := ⟨_, rfl⟩
  have HR := Lib.hid hR
  clear hR
  go_wp2_with fail
  refine (sub_c _ _ _ _ _ _ _ _ _ x17 y17 (by omega) (by omega)).mono ?_
  rintro e w18 ⟨he, hb18⟩
  have b18 := below_call b17 hb18
  have x18 := x17.call (Nat.le_refl _) hb18
  have y18 := y17.call (Nat.le_refl _) hb18
  rw [HR.out] at he
  subst he
  clear b17 hb18 x17 y17
  go_wp2_with fail
  refine (rsub_c _ _ _ _ _ _ _ _ _ x18 y18 (by omega) (by omega)).mono ?_
  rintro e w19 ⟨he, hb19⟩
  have b19 := below_call b18 hb19
  have x19 := x18.call (Nat.le_refl _) hb19
  have y19 := y18.call (Nat.le_refl _) hb19
  rw [HR.out] at he
  subst he
  clear b18 hb19 x18 y18
  go_wp2
  go_ret
  exact ⟨by simp, b19⟩

end Go.Proofs.Ytladdpfngoldcaa
