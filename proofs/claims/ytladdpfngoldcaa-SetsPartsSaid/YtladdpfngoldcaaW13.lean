/- Walks: SetsSub, SetsParts (printed by tools/c06_w13.py). -/
import Derived.Test.YtladdpfngoldcaaW12
import Derived.Test.YtladdpfngoldcaaLawC
namespace Go.Proofs.Ytladdpfngoldcaa
open Go.RowKit

set_option maxRecDepth 100000 in
set_option maxHeartbeats 2000000 in
theorem setsSub_walk (a0 : Option Addr) (len0 cap0 : Nat) (z0 : List Int) (a1 : Option Addr) (len1 cap1 : Nat) (z1 : List Int) (w : World) (w0 : IsRow .i64 w a0 len0 cap0 z0) (w1 : IsRow .i64 w a1 len1 cap1 z1) :
    Calls Try.prog 10 #[.slice a0 len0 cap0, .slice a1 len1 cap1] w fun e w' => e = .returned (.bool true) ∧ Below w.heap.size w w' := by
  obtain ⟨p0, hlc0, hcm0⟩ := w0.rd
  obtain ⟨p1, hlc1, hcm1⟩ := w1.rd
  clear w0 w1
  have b0 := Below.refl w.heap.size w
  go_enter Try.func10, Try.ntmps10
  go_wp2_with fail
  refine (lshown_c _  ).mono ?_
  rintro e w1 ⟨rfl, hb1⟩
  have b1 := below_call b0 hb1
  have p01 := p0.call (Nat.le_refl _) hb1
  have p11 := p1.call (Nat.le_refl _) hb1
  clear b0 hb1 p0 p1
  go_wp2_with fail
  refine (few_c _ _ _ _ _ p01 hlc0 hcm0).mono ?_
  rintro e w2 ⟨A2, cp2, rfl, ho2, hb2⟩
  have b2 := below_call b1 hb2
  have p02 := p01.call (Nat.le_refl _) hb2
  have p12 := p11.call (Nat.le_refl _) hb2
  have x2 := ho2.rd
  clear b1 hb2 p01 p11 ho2 p02
  go_wp2_with fail
  refine (few_c _ _ _ _ _ p12 hlc1 hcm1).mono ?_
  rintro e w3 ⟨A3, cp3, rfl, ho3, hb3⟩
  have b3 := below_call b2 hb3
  have p13 := p12.call (Nat.le_refl _) hb3
  have x3 := x2.call (Nat.le_refl _) hb3
  have y3 := ho3.rd
  clear b2 hb3 p12 x2 ho3 p13
  have n0 : min len0 40 ≤ 40 := by omega
  have n1 : min len1 40 ≤ 40 := by omega
  generalize (z0.take len0).take 40 = X at *
  generalize (z1.take len1).take 40 = Y at *
  generalize min len0 40 = nx at *
  generalize min len1 40 = ny at *
  have e1 := sub_union X Y
  have e2 := sub_meet X Y
  have e3 := sub_alike X Y
  have eN : siftL X Y false = [] ↔ decide (siftL X Y false = []) = true := by simp
  generalize hS : decide (siftL X Y false = []) = S at *
  generalize hT : decide (siftL Y X false = []) = T at *
  have E1 := Lib.hid e1
  have E2 := Lib.hid e2
  have E3 := Lib.hid e3
  have EN := Lib.hid eN
  have HS := Lib.hid hS
  have HT := Lib.hid hT
  clear e1 e2 e3 eN hS hT
  go_wp2_with fail
  refine (sub_c _ _ _ _ _ _ _ _ _ x3 y3 (by omega) (by omega)).mono ?_
  rintro e w4 ⟨he, hb4⟩
  have b4 := below_call b3 hb4
  have x4 := x3.call (Nat.le_refl _) hb4
  have y4 := y3.call (Nat.le_refl _) hb4
  rw [HS.out] at he
  subst he
  clear b3 hb4 x3 y3
  go_wp2_with fail
  refine (sub_c _ _ _ _ _ _ _ _ _ y4 x4 (by omega) (by omega)).mono ?_
  rintro e w5 ⟨he, hb5⟩
  have b5 := below_call b4 hb5
  have x5 := x4.call (Nat.le_refl _) hb5
  have y5 := y4.call (Nat.le_refl _) hb5
  rw [HT.out] at he
  subst he
  clear b4 hb5 x4 y4
  go_wp2_with fail
  refine (union_c _ _ _ _ _ _ _ _ _ x5 y5 (by omega) (by omega)).mono ?_
  rintro e w6 ⟨A6, ln6, cp6, rfl, hm6, ho6, hb6⟩
  have b6 := below_call b5 hb6
  have x6 := x5.call (Nat.le_refl _) hb6
  have y6 := y5.call (Nat.le_refl _) hb6
  have u6 := ho6.rd
  clear b5 hb6 x5 y5 ho6
  go_wp2_with fail
  refine (of_c _ _ _ _ _ y6 (by omega)).mono ?_
  rintro e w7 ⟨A7, ln7, cp7, rfl, hm7, ho7, hb7⟩
  have b7 := below_call b6 hb7
  have x7 := x6.call (Nat.le_refl _) hb7
  have y7 := y6.call (Nat.le_refl _) hb7
  have u7 := u6.call (Nat.le_refl _) hb7
  have o7 := ho7.rd
  clear b6 hb7 x6 y6 u6 ho7
  go_wp2_with fail
  refine (same_b _ _ _ _ _ _ _ _ _ u7 o7 (by omega) (by omega)).mono ?_
  rintro e w8 ⟨he, hb8⟩
  have b8 := below_call b7 hb8
  have x8 := x7.call (Nat.le_refl _) hb8
  have y8 := y7.call (Nat.le_refl _) hb8
  have u8 := u7.call (Nat.le_refl _) hb8
  have o8 := o7.call (Nat.le_refl _) hb8
  rw [E1.out] at he
  subst he
  clear b7 hb8 x7 y7 u7 o7
  clear u8 o8
  go_wp2_with fail
  refine (meet_c _ _ _ _ _ _ _ _ _ x8 y8 (by omega) (by omega)).mono ?_
  rintro e w9 ⟨A9, ln9, cp9, rfl, hm9, ho9, hb9⟩
  have b9 := below_call b8 hb9
  have x9 := x8.call (Nat.le_refl _) hb9
  have y9 := y8.call (Nat.le_refl _) hb9
  have m9 := ho9.rd
  clear b8 hb9 x8 y8 ho9
  go_wp2_with fail
  refine (of_c _ _ _ _ _ x9 (by omega)).mono ?_
  rintro e w10 ⟨A10, ln10, cp10, rfl, hm10, ho10, hb10⟩
  have b10 := below_call b9 hb10
  have x10 := x9.call (Nat.le_refl _) hb10
  have y10 := y9.call (Nat.le_refl _) hb10
  have m10 := m9.call (Nat.le_refl _) hb10
  have o10 := ho10.rd
  clear b9 hb10 x9 y9 m9 ho10
  go_wp2_with fail
  refine (same_b _ _ _ _ _ _ _ _ _ m10 o10 (by omega) (by omega)).mono ?_
  rintro e w11 ⟨he, hb11⟩
  have b11 := below_call b10 hb11
  have x11 := x10.call (Nat.le_refl _) hb11
  have y11 := y10.call (Nat.le_refl _) hb11
  have m11 := m10.call (Nat.le_refl _) hb11
  have o11 := o10.call (Nat.le_refl _) hb11
  rw [E2.out] at he
  subst he
  clear b10 hb11 x10 y10 m10 o10
  clear m11 o11
  go_wp2_with fail
  refine (minus_c _ _ _ _ _ _ _ _ _ x11 y11 (by omega) (by omega)).mono ?_
  rintro e w12 ⟨A12, ln12, cp12, rfl, hm12, ho12, hb12⟩
  have b12 := below_call b11 hb12
  have x12 := x11.call (Nat.le_refl _) hb12
  have y12 := y11.call (Nat.le_refl _) hb12
  have d12 := ho12.rd
  clear b11 hb12 x11 y11 ho12
  have td : ((ln12 : Int) == 0) = S := by
    rw [Bool.eq_iff_iff, ← EN.out, ← List.length_eq_zero_iff, d12.len]; simp
  clear d12
  go_wp2_with fail
  refine (of_c _ _ _ _ _ x12 (by omega)).mono ?_
  rintro e w13 ⟨A13, ln13, cp13, rfl, hm13, ho13, hb13⟩
  have b13 := below_call b12 hb13
  have x13 := x12.call (Nat.le_refl _) hb13
  have y13 := y12.call (Nat.le_refl _) hb13
  have o13 := ho13.rd
  clear b12 hb13 x12 y12 ho13
  go_wp2_with fail
  refine (of_c _ _ _ _ _ y13 (by omega)).mono ?_
  rintro e w14 ⟨A14, ln14, cp14, rfl, hm14, ho14, hb14⟩
  have b14 := below_call b13 hb14
  have x14 := x13.call (Nat.le_refl _) hb14
  have y14 := y13.call (Nat.le_refl _) hb14
  have o14 := o13.call (Nat.le_refl _) hb14
  have v14 := ho14.rd
  clear b13 hb14 x13 y13 o13 ho14
  go_wp2_with fail
  refine (same_b _ _ _ _ _ _ _ _ _ o14 v14 (by omega) (by omega)).mono ?_
  rintro e w15 ⟨he, hb15⟩
  have b15 := below_call b14 hb15
  have x15 := x14.call (Nat.le_refl _) hb15
  have y15 := y14.call (Nat.le_refl _) hb15
  have o15 := o14.call (Nat.le_refl _) hb15
  have v15 := v14.call (Nat.le_refl _) hb15
  rw [E3.out] at he
  subst he
  clear b14 hb15 x14 y14 o14 v14
  clear o15 v15
  clear E1 E2 E3 EN HS HT
  have rn := Rd.nil (w := w15) (B := w15.heap.size) (A := none)
  have cases4 : (S = true ∧ T = true) ∨ (S = true ∧ T = false) ∨ (S = false ∧ T = true) ∨ (S = false ∧ T = false) := by cases S <;> cases T <;> simp
  rcases cases4 with ⟨hS, hT⟩ | ⟨hS, hT⟩ | ⟨hS, hT⟩ | ⟨hS, hT⟩
  all_goals
    subst hS; subst hT
    go_wp2_with fail
    refine (sub_c _ _ _ _ _ _ _ _ _ rn x15 (by omega) (by omega)).mono ?_
    rintro e w16 ⟨he, hb16⟩
    have b16 := below_call b15 hb16
    have x16 := x15.call (Nat.le_refl _) hb16
    have y16 := y15.call (Nat.le_refl _) hb16
    have rn16 := rn.call (Nat.le_refl _) hb16
    rw [sub_none] at he
    subst he
    clear b15 hb16 x15 y15 rn
    clear rn16
    go_wp2_with fail
    refine (sub_c _ _ _ _ _ _ _ _ _ x16 x16 (by omega) (by omega)).mono ?_
    rintro e w17 ⟨he, hb17⟩
    have b17 := below_call b16 hb17
    have x17 := x16.call (Nat.le_refl _) hb17
    have y17 := y16.call (Nat.le_refl _) hb17
    rw [sub_self] at he
    subst he
    clear b16 hb17 x16 y16
    go_wp2_with fail
    refine (meet_c _ _ _ _ _ _ _ _ _ x17 y17 (by omega) (by omega)).mono ?_
    rintro e w18 ⟨A18, ln18, cp18, rfl, hm18, ho18, hb18⟩
    have b18 := below_call b17 hb18
    have x18 := x17.call (Nat.le_refl _) hb18
    have y18 := y17.call (Nat.le_refl _) hb18
    have m18 := ho18.rd
    clear b17 hb18 x17 y17 ho18
    go_wp2_with fail
    refine (sub_c _ _ _ _ _ _ _ _ _ m18 x18 (by omega) (by omega)).mono ?_
    rintro e w19 ⟨he, hb19⟩
    have b19 := below_call b18 hb19
    have x19 := x18.call (Nat.le_refl _) hb19
    have y19 := y18.call (Nat.le_refl _) hb19
    have m19 := m18.call (Nat.le_refl _) hb19
    rw [sub_of_meet] at he
    subst he
    clear b18 hb19 x18 y18 m18
    clear m19
    go_wp2_with fail
    refine (union_c _ _ _ _ _ _ _ _ _ y19 x19 (by omega) (by omega)).mono ?_
    rintro e w20 ⟨A20, ln20, cp20, rfl, hm20, ho20, hb20⟩
    have b20 := below_call b19 hb20
    have x20 := x19.call (Nat.le_refl _) hb20
    have y20 := y19.call (Nat.le_refl _) hb20
    have u20 := ho20.rd
    clear b19 hb20 x19 y19 ho20
    go_wp2_with fail
    refine (sub_c _ _ _ _ _ _ _ _ _ x20 u20 (by omega) (by omega)).mono ?_
    rintro e w21 ⟨he, hb21⟩
    have b21 := below_call b20 hb21
    have x21 := x20.call (Nat.le_refl _) hb21
    have y21 := y20.call (Nat.le_refl _) hb21
    have u21 := u20.call (Nat.le_refl _) hb21
    rw [sub_in_union] at he
    subst he
    clear b20 hb21 x20 y20 u20
    go_wp2
    go_ret
    exact ⟨rfl, b21⟩

set_option maxRecDepth 100000 in
set_option maxHeartbeats 2000000 in
theorem setsParts_walk (a0 : Option Addr) (len0 cap0 : Nat) (z0 : List Int) (a1 : Option Addr) (len1 cap1 : Nat) (z1 : List Int) (a2 : Option Addr) (len2 cap2 : Nat) (z2 : List Int) (w : World) (w0 : IsRow .i64 w a0 len0 cap0 z0) (w1 : IsRow .i64 w a1 len1 cap1 z1) (w2 : IsRow .i64 w a2 len2 cap2 z2) :
    Calls Try.prog 8 #[.slice a0 len0 cap0, .slice a1 len1 cap1, .slice a2 len2 cap2] w fun e w' => e = .returned (.bool true) ∧ Below w.heap.size w w' := by
  obtain ⟨p0, hlc0, hcm0⟩ := w0.rd
  obtain ⟨p1, hlc1, hcm1⟩ := w1.rd
  obtain ⟨p2, hlc2, hcm2⟩ := w2.rd
  clear w0 w1 w2
  have b0 := Below.refl w.heap.size w
  go_enter Try.func8, Try.ntmps8
  go_wp2_with fail
  refine (lshown_c _  ).mono ?_
  rintro e w1 ⟨rfl, hb1⟩
  have b1 := below_call b0 hb1
  have p01 := p0.call (Nat.le_refl _) hb1
  have p11 := p1.call (Nat.le_refl _) hb1
  have p21 := p2.call (Nat.le_refl _) hb1
  clear b0 hb1 p0 p1 p2
  go_wp2_with fail
  refine (few_c _ _ _ _ _ p01 hlc0 hcm0).mono ?_
  rintro e w2 ⟨A2, cp2, rfl, ho2, hb2⟩
  have b2 := below_call b1 hb2
  have p02 := p01.call (Nat.le_refl _) hb2
  have p12 := p11.call (Nat.le_refl _) hb2
  have p22 := p21.call (Nat.le_refl _) hb2
  have x2 := ho2.rd
  clear b1 hb2 p01 p11 p21 ho2 p02
  go_wp2_with fail
  refine (few_c _ _ _ _ _ p12 hlc1 hcm1).mono ?_
  rintro e w3 ⟨A3, cp3, rfl, ho3, hb3⟩
  have b3 := below_call b2 hb3
  have p13 := p12.call (Nat.le_refl _) hb3
  have p23 := p22.call (Nat.le_refl _) hb3
  have x3 := x2.call (Nat.le_refl _) hb3
  have y3 := ho3.rd
  clear b2 hb3 p12 p22 x2 ho3 p13
  go_wp2_with fail
  refine (few_c _ _ _ _ _ p23 hlc2 hcm2).mono ?_
  rintro e w4 ⟨A4, cp4, rfl, ho4, hb4⟩
  have b4 := below_call b3 hb4
  have p24 := p23.call (Nat.le_refl _) hb4
  have x4 := x3.call (Nat.le_refl _) hb4
  have y4 := y3.call (Nat.le_refl _) hb4
  have z4 := ho4.rd
  clear b3 hb4 p23 x3 y3 ho4 p24
  have n0 : min len0 40 ≤ 40 := by omega
  generalize (z0.take len0).take 40 = X at *
  generalize min len0 40 = nx at *
  have n1 : min len1 40 ≤ 40 := by omega
  generalize (z1.take len1).take 40 = Y at *
  generalize min len1 40 = ny at *
  have n2 : min len2 40 ≤ 40 := by omega
  generalize (z2.take len2).take 40 = Z at *
  generalize min len2 40 = nz at *
  go_wp2_with fail
  refine (meet_c _ _ _ _ _ _ _ _ _ x4 y4 (by omega) (by omega)).mono ?_
  rintro e w5 ⟨A5, ln5, cp5, rfl, hm5, ho5, hb5⟩
  have b5 := below_call b4 hb5
  have x5 := x4.call (Nat.le_refl _) hb5
  have y5 := y4.call (Nat.le_refl _) hb5
  have z5 := z4.call (Nat.le_refl _) hb5
  have m5 := ho5.rd
  clear b4 hb5 x4 y4 z4 ho5
  go_wp2_with fail
  refine (minus_c _ _ _ _ _ _ _ _ _ x5 y5 (by omega) (by omega)).mono ?_
  rintro e w6 ⟨A6, ln6, cp6, rfl, hm6, ho6, hb6⟩
  have b6 := below_call b5 hb6
  have x6 := x5.call (Nat.le_refl _) hb6
  have y6 := y5.call (Nat.le_refl _) hb6
  have z6 := z5.call (Nat.le_refl _) hb6
  have m6 := m5.call (Nat.le_refl _) hb6
  have d6 := ho6.rd
  clear b5 hb6 x5 y5 z5 m5 ho6
  go_wp2_with fail
  refine (union_c _ _ _ _ _ _ _ _ _ y6 z6 (by omega) (by omega)).mono ?_
  rintro e w7 ⟨A7, ln7, cp7, rfl, hm7, ho7, hb7⟩
  have b7 := below_call b6 hb7
  have x7 := x6.call (Nat.le_refl _) hb7
  have y7 := y6.call (Nat.le_refl _) hb7
  have z7 := z6.call (Nat.le_refl _) hb7
  have m7 := m6.call (Nat.le_refl _) hb7
  have d7 := d6.call (Nat.le_refl _) hb7
  have u7 := ho7.rd
  clear b6 hb7 x6 y6 z6 m6 d6 ho7
  go_wp2_with fail
  refine (minus_c _ _ _ _ _ _ _ _ _ x7 u7 (by omega) (by omega)).mono ?_
  rintro e w8 ⟨A8, ln8, cp8, rfl, hm8, ho8, hb8⟩
  have b8 := below_call b7 hb8
  have x8 := x7.call (Nat.le_refl _) hb8
  have y8 := y7.call (Nat.le_refl _) hb8
  have z8 := z7.call (Nat.le_refl _) hb8
  have m8 := m7.call (Nat.le_refl _) hb8
  have d8 := d7.call (Nat.le_refl _) hb8
  have u8 := u7.call (Nat.le_refl _) hb8
  rw [parts_minus] at ho8
  have l8 := ho8.rd
  clear b7 hb8 x7 y7 z7 m7 d7 u7 ho8
  clear u8
  go_wp2_with fail
  refine (minus_c _ _ _ _ _ _ _ _ _ x8 y8 (by omega) (by omega)).mono ?_
  rintro e w9 ⟨A9, ln9, cp9, rfl, hm9, ho9, hb9⟩
  have b9 := below_call b8 hb9
  have x9 := x8.call (Nat.le_refl _) hb9
  have y9 := y8.call (Nat.le_refl _) hb9
  have z9 := z8.call (Nat.le_refl _) hb9
  have m9 := m8.call (Nat.le_refl _) hb9
  have d9 := d8.call (Nat.le_refl _) hb9
  have l9 := l8.call (Nat.le_refl _) hb9
  have v9 := ho9.rd
  clear b8 hb9 x8 y8 z8 m8 d8 l8 ho9
  go_wp2_with fail
  refine (minus_c _ _ _ _ _ _ _ _ _ v9 z9 (by omega) (by omega)).mono ?_
  rintro e w10 ⟨A10, ln10, cp10, rfl, hm10, ho10, hb10⟩
  have b10 := below_call b9 hb10
  have x10 := x9.call (Nat.le_refl _) hb10
  have y10 := y9.call (Nat.le_refl _) hb10
  have z10 := z9.call (Nat.le_refl _) hb10
  have m10 := m9.call (Nat.le_refl _) hb10
  have d10 := d9.call (Nat.le_refl _) hb10
  have l10 := l9.call (Nat.le_refl _) hb10
  have v10 := v9.call (Nat.le_refl _) hb10
  have r10 := ho10.rd
  clear b9 hb10 x9 y9 z9 m9 d9 l9 v9 ho10
  clear v10
  go_wp2_with fail
  refine (meet_c _ _ _ _ _ _ _ _ _ m10 d10 (by omega) (by omega)).mono ?_
  rintro e w11 ⟨A11, ln11, cp11, rfl, hm11, ho11, hb11⟩
  have b11 := below_call b10 hb11
  have x11 := x10.call (Nat.le_refl _) hb11
  have y11 := y10.call (Nat.le_refl _) hb11
  have z11 := z10.call (Nat.le_refl _) hb11
  have m11 := m10.call (Nat.le_refl _) hb11
  have d11 := d10.call (Nat.le_refl _) hb11
  have l11 := l10.call (Nat.le_refl _) hb11
  have r11 := r10.call (Nat.le_refl _) hb11
  rw [parts_apart] at ho11
  have q11 := ho11.rd
  clear b10 hb11 x10 y10 z10 m10 d10 l10 r10 ho11
  obtain rfl : ln11 = 0 := q11.len.symm
  clear q11
  go_wp2_with fail
  refine (union_c _ _ _ _ _ _ _ _ _ m11 d11 (by omega) (by omega)).mono ?_
  rintro e w12 ⟨A12, ln12, cp12, rfl, hm12, ho12, hb12⟩
  have b12 := below_call b11 hb12
  have x12 := x11.call (Nat.le_refl _) hb12
  have y12 := y11.call (Nat.le_refl _) hb12
  have z12 := z11.call (Nat.le_refl _) hb12
  have m12 := m11.call (Nat.le_refl _) hb12
  have d12 := d11.call (Nat.le_refl _) hb12
  have l12 := l11.call (Nat.le_refl _) hb12
  have r12 := r11.call (Nat.le_refl _) hb12
  rw [parts_all] at ho12
  have u12 := ho12.rd
  clear b11 hb12 x11 y11 z11 m11 d11 l11 r11 ho12
  go_wp2_with fail
  refine (of_c _ _ _ _ _ x12 (by omega)).mono ?_
  rintro e w13 ⟨A13, ln13, cp13, rfl, hm13, ho13, hb13⟩
  have b13 := below_call b12 hb13
  have x13 := x12.call (Nat.le_refl _) hb13
  have y13 := y12.call (Nat.le_refl _) hb13
  have z13 := z12.call (Nat.le_refl _) hb13
  have m13 := m12.call (Nat.le_refl _) hb13
  have d13 := d12.call (Nat.le_refl _) hb13
  have l13 := l12.call (Nat.le_refl _) hb13
  have r13 := r12.call (Nat.le_refl _) hb13
  have u13 := u12.call (Nat.le_refl _) hb13
  have o13 := ho13.rd
  clear b12 hb13 x12 y12 z12 m12 d12 l12 r12 u12 ho13
  go_wp2_with fail
  refine (same_b _ _ _ _ _ _ _ _ _ u13 o13 (by omega) (by omega)).mono ?_
  rintro e w14 ⟨he, hb14⟩
  have b14 := below_call b13 hb14
  have x14 := x13.call (Nat.le_refl _) hb14
  have y14 := y13.call (Nat.le_refl _) hb14
  have z14 := z13.call (Nat.le_refl _) hb14
  have m14 := m13.call (Nat.le_refl _) hb14
  have d14 := d13.call (Nat.le_refl _) hb14
  have l14 := l13.call (Nat.le_refl _) hb14
  have r14 := r13.call (Nat.le_refl _) hb14
  have u14 := u13.call (Nat.le_refl _) hb14
  have o14 := o13.call (Nat.le_refl _) hb14
  rw [decide_eq_true (by rfl)] at he
  subst he
  clear b13 hb14 x13 y13 z13 m13 d13 l13 r13 u13 o13
  clear u14 o14
  go_wp2_with fail
  refine (minus_c _ _ _ _ _ _ _ _ _ x14 d14 (by omega) (by omega)).mono ?_
  rintro e w15 ⟨A15, ln15, cp15, rfl, hm15, ho15, hb15⟩
  have b15 := below_call b14 hb15
  have x15 := x14.call (Nat.le_refl _) hb15
  have y15 := y14.call (Nat.le_refl _) hb15
  have z15 := z14.call (Nat.le_refl _) hb15
  have m15 := m14.call (Nat.le_refl _) hb15
  have d15 := d14.call (Nat.le_refl _) hb15
  have l15 := l14.call (Nat.le_refl _) hb15
  have r15 := r14.call (Nat.le_refl _) hb15
  rw [parts_left] at ho15
  have u15 := ho15.rd
  clear b14 hb15 x14 y14 z14 m14 d14 l14 r14 ho15
  go_wp2_with fail
  refine (same_b _ _ _ _ _ _ _ _ _ u15 m15 (by omega) (by omega)).mono ?_
  rintro e w16 ⟨he, hb16⟩
  have b16 := below_call b15 hb16
  have x16 := x15.call (Nat.le_refl _) hb16
  have y16 := y15.call (Nat.le_refl _) hb16
  have z16 := z15.call (Nat.le_refl _) hb16
  have m16 := m15.call (Nat.le_refl _) hb16
  have d16 := d15.call (Nat.le_refl _) hb16
  have l16 := l15.call (Nat.le_refl _) hb16
  have r16 := r15.call (Nat.le_refl _) hb16
  have u16 := u15.call (Nat.le_refl _) hb16
  rw [decide_eq_true (by rfl)] at he
  subst he
  clear b15 hb16 x15 y15 z15 m15 d15 l15 r15 u15
  clear u16
  go_wp2_with fail
  refine (same_b _ _ _ _ _ _ _ _ _ l16 r16 (by omega) (by omega)).mono ?_
  rintro e w17 ⟨he, hb17⟩
  have b17 := below_call b16 hb17
  have x17 := x16.call (Nat.le_refl _) hb17
  have y17 := y16.call (Nat.le_refl _) hb17
  have z17 := z16.call (Nat.le_refl _) hb17
  have m17 := m16.call (Nat.le_refl _) hb17
  have d17 := d16.call (Nat.le_refl _) hb17
  have l17 := l16.call (Nat.le_refl _) hb17
  have r17 := r16.call (Nat.le_refl _) hb17
  rw [decide_eq_true (by rfl)] at he
  subst he
  clear b16 hb17 x16 y16 z16 m16 d16 l16 r16
  clear l17 r17
  go_wp2_with fail
  refine (union_c _ _ _ _ _ _ _ _ _ y17 z17 (by omega) (by omega)).mono ?_
  rintro e w18 ⟨A18, ln18, cp18, rfl, hm18, ho18, hb18⟩
  have b18 := below_call b17 hb18
  have x18 := x17.call (Nat.le_refl _) hb18
  have y18 := y17.call (Nat.le_refl _) hb18
  have z18 := z17.call (Nat.le_refl _) hb18
  have m18 := m17.call (Nat.le_refl _) hb18
  have d18 := d17.call (Nat.le_refl _) hb18
  have u18 := ho18.rd
  clear b17 hb18 x17 y17 z17 m17 d17 ho18
  go_wp2_with fail
  refine (meet_c _ _ _ _ _ _ _ _ _ x18 u18 (by omega) (by omega)).mono ?_
  rintro e w19 ⟨A19, ln19, cp19, rfl, hm19, ho19, hb19⟩
  have b19 := below_call b18 hb19
  have x19 := x18.call (Nat.le_refl _) hb19
  have y19 := y18.call (Nat.le_refl _) hb19
  have z19 := z18.call (Nat.le_refl _) hb19
  have m19 := m18.call (Nat.le_refl _) hb19
  have d19 := d18.call (Nat.le_refl _) hb19
  have u19 := u18.call (Nat.le_refl _) hb19
  rw [parts_meet] at ho19
  have v19 := ho19.rd
  clear b18 hb19 x18 y18 z18 m18 d18 u18 ho19
  clear u19
  go_wp2_with fail
  refine (meet_c _ _ _ _ _ _ _ _ _ x19 z19 (by omega) (by omega)).mono ?_
  rintro e w20 ⟨A20, ln20, cp20, rfl, hm20, ho20, hb20⟩
  have b20 := below_call b19 hb20
  have x20 := x19.call (Nat.le_refl _) hb20
  have y20 := y19.call (Nat.le_refl _) hb20
  have z20 := z19.call (Nat.le_refl _) hb20
  have m20 := m19.call (Nat.le_refl _) hb20
  have d20 := d19.call (Nat.le_refl _) hb20
  have v20 := v19.call (Nat.le_refl _) hb20
  have q20 := ho20.rd
  clear b19 hb20 x19 y19 z19 m19 d19 v19 ho20
  go_wp2_with fail
  refine (union_c _ _ _ _ _ _ _ _ _ m20 q20 (by omega) (by omega)).mono ?_
  rintro e w21 ⟨A21, ln21, cp21, rfl, hm21, ho21, hb21⟩
  have b21 := below_call b20 hb21
  have x21 := x20.call (Nat.le_refl _) hb21
  have y21 := y20.call (Nat.le_refl _) hb21
  have z21 := z20.call (Nat.le_refl _) hb21
  have m21 := m20.call (Nat.le_refl _) hb21
  have d21 := d20.call (Nat.le_refl _) hb21
  have v21 := v20.call (Nat.le_refl _) hb21
  have q21 := q20.call (Nat.le_refl _) hb21
  have u21 := ho21.rd
  clear b20 hb21 x20 y20 z20 m20 d20 v20 q20 ho21
  go_wp2_with fail
  refine (same_b _ _ _ _ _ _ _ _ _ v21 u21 (by omega) (by omega)).mono ?_
  rintro e w22 ⟨he, hb22⟩
  have b22 := below_call b21 hb22
  have x22 := x21.call (Nat.le_refl _) hb22
  have y22 := y21.call (Nat.le_refl _) hb22
  have z22 := z21.call (Nat.le_refl _) hb22
  have m22 := m21.call (Nat.le_refl _) hb22
  have d22 := d21.call (Nat.le_refl _) hb22
  have v22 := v21.call (Nat.le_refl _) hb22
  have q22 := q21.call (Nat.le_refl _) hb22
  have u22 := u21.call (Nat.le_refl _) hb22
  rw [decide_eq_true (by rfl)] at he
  subst he
  clear b21 hb22 x21 y21 z21 m21 d21 v21 q21 u21
  go_wp2
  go_ret
  exact ⟨rfl, b22⟩

end Go.Proofs.Ytladdpfngoldcaa
