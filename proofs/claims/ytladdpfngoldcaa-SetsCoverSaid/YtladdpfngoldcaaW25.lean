/- Walks: SetsOwn (under way). -/
import Derived.Test.YtladdpfngoldcaaW24
import Derived.Test.YtladdpfngoldcaaW19
namespace Go.Proofs.Ytladdpfngoldcaa
open Go.RowKit Go.Shelf
attribute [local go_sem] Oper.semAt_some

theorem liftC {f : FuncId} {args : Array Value} {w : World} {R : Ending → World → Prop} (h : Calls Try.prog f args w R) : CallsIn Fence.wide 4 Try.prog f args w R := (callsIn_wide (n := 4)).2 h

/-- Four rows of the call's own, and the array that holds them. -/
structure T4 (w : World) (base Bt T : Nat) (A : Nat → Option Addr) (N C : Nat → Nat) : Prop where
  box : Bk w Bt T #[.slice (A 0) (N 0) (C 0), .slice (A 1) (N 1) (C 1), .slice (A 2) (N 2) (C 2), .slice (A 3) (N 3) (C 3)]
  rows : ∀ j, j < 4 → ∃ xs, Ow w base (A j) (N j) (C j) xs
  apart : ∀ i j, i < 4 → j < 4 → i ≠ j → ∀ b, A i = some ⟨b, 0, none⟩ → A j ≠ some ⟨b, 0, none⟩
  nb : ∀ j, j < 4 → ∀ b, A j = some ⟨b, 0, none⟩ → b ≠ Bt
theorem T4.call {w w' : World} {base Bt T : Nat} {A : Nat → Option Addr} {N C : Nat → Nat} (h : T4 w base Bt T A N C) (k : Below w.heap.size w w') : T4 w' base Bt T A N C :=
  ⟨h.box.below k h.box.lt, fun j hj => by obtain ⟨xs, ho⟩ := h.rows j hj; exact ⟨xs, ho.call k⟩, h.apart, h.nb⟩
theorem T4.at {w : World} {base Bt T : Nat} {A : Nat → Option Addr} {N C : Nat → Nat} (h : T4 w base Bt T A N C) {i : Nat} (hi : i < 4) : w.cell? ⟨Bt, i, none⟩ = some (.slice (A i) (N i) (C i)) := by
  rw [h.box.cell i]
  match i with
  | 0 => rfl
  | 1 => rfl
  | 2 => rfl
  | 3 => rfl
theorem T4.store {w : World} {base Bt T : Nat} {A : Nat → Option Addr} {N C : Nat → Nat} (h : T4 w base Bt T A N C) {i g : Nat} (hi : i < 4) (hg : A i = some ⟨g, 0, none⟩) (k : Nat) (v : Int) : T4 (w.setCell ⟨g, k, none⟩ (.int .i64 v)) base Bt T A N C := by
  refine ⟨h.box.far (fun e => h.nb i hi g hg e.symm) _, fun j hj => ?_, h.apart, h.nb⟩
  obtain ⟨xs, ho⟩ := h.rows j hj
  by_cases e : j = i
  · subst e
    rw [hg] at ho ⊢
    exact ⟨_, ho.stored k v⟩
  · exact ⟨xs, ho.setOther (fun b hb e2 => h.apart j i hj hi e b hb (by rw [hg]; simp only at e2; rw [e2])) _⟩

theorem apart4 {A : Nat → Option Addr} {L : Nat → Nat} (hm : ∀ i, i < 4 → L i ≤ L (i + 1)) (key : ∀ i, i < 4 → ∀ b, A i = some ⟨b, 0, none⟩ → L i ≤ b ∧ b < L (i + 1)) :
    ∀ i j, i < 4 → j < 4 → i ≠ j → ∀ b, A i = some ⟨b, 0, none⟩ → A j ≠ some ⟨b, 0, none⟩ := by
  have mono : ∀ d i, i + d ≤ 4 → L i ≤ L (i + d) := by
    intro d
    induction d with
    | zero => intro i _; exact Nat.le_refl _
    | succ d ih => intro i hi; exact Nat.le_trans (ih i (by omega)) (hm (i + d) (by omega))
  intro i j hi hj hne b e1 e2
  have k1 := key i hi b e1
  have k2 := key j hj b e2
  rcases Nat.lt_or_gt_of_ne hne with h | h
  · have := mono (j - (i + 1)) (i + 1) (by omega)
    rw [show i + 1 + (j - (i + 1)) = j by omega] at this; omega
  · have := mono (i - (j + 1)) (j + 1) (by omega)
    rw [show j + 1 + (i - (j + 1)) = i by omega] at this; omega
def sel {α : Type} (a b c d : α) : Nat → α
  | 0 => a
  | 1 => b
  | 2 => c
  | _ => d
def sel5 (a b c d e : Nat) : Nat → Nat
  | 0 => a
  | 1 => b
  | 2 => c
  | 3 => d
  | _ => e

set_option maxRecDepth 100000 in
set_option maxHeartbeats 4000000 in
theorem setsOwn_walk (a0 : Option Addr) (len0 cap0 : Nat) (z0 : List Int) (a1 : Option Addr) (len1 cap1 : Nat) (z1 : List Int) (a2 : Int) (w : World) (w0 : IsRow .i64 w a0 len0 cap0 z0) (w1 : IsRow .i64 w a1 len1 cap1 z1) (_w2 : (Lit.int .i64 a2).wf = true) :
    Calls Try.prog 9 #[.slice a0 len0 cap0, .slice a1 len1 cap1, .int .i64 a2] w fun e w' => e = .returned (.bool true) ∧ Below w.heap.size w w' := by
  obtain ⟨p0, hlc0, hcm0⟩ := w0.rd
  obtain ⟨p1, hlc1, hcm1⟩ := w1.rd
  have hin : In64 ((z0.take len0).take 40) := fun x hx => w0.in64 x (List.mem_of_mem_take (List.mem_of_mem_take hx))
  have HIN := Lib.hid hin
  clear w0 w1 hin
  refine (callsIn_wide (n := 5)).1 ?_
  have hFw : ∀ k, Fence.wide.fn k := fun _ => trivial
  refine callsIn_of_wp_marks Try.func9 rfl trivial ?_ rfl
  simp only [Try.ntmps9, List.size_toArray, List.length_cons, List.length_nil, Nat.reduceAdd, Nat.reduceSub, Array.replicate_succ, Array.replicate_zero, List.push_toArray, List.append_toArray, List.nil_append, List.cons_append]
  gi_wp2_with fail
  refine (liftC (lshown_c _)).mono ?_
  rintro e w1 ⟨rfl, b1⟩
  have q0 := p0.call (Nat.le_refl _) b1
  have q1 := p1.call (Nat.le_refl _) b1
  have HP0 := Lib.hid p0
  have bs1 := b1.size
  clear p0 p1
  gi_wp2_with fail
  refine (liftC (few_c _ _ _ _ _ q0 hlc0 hcm0)).mono ?_
  rintro e w2 ⟨Ax, cx, rfl, hx2, hb2⟩
  have b2 := below_call b1 hb2
  have q02 := q0.call (Nat.le_refl _) hb2
  have q12 := q1.call (Nat.le_refl _) hb2
  clear b1 q0 q1
  gi_wp2_with fail
  refine (liftC (few_c _ _ _ _ _ q12 hlc1 hcm1)).mono ?_
  rintro e w3 ⟨Ay, cy, rfl, hy3, hb3⟩
  have b3 := below_call b2 hb3
  have q03 := q02.call (Nat.le_refl _) hb3
  have q13 := q12.call (Nat.le_refl _) hb3
  have hx3 := hx2.call hb3
  have HXL3 : Hid (∀ b o sp, Ax = some ⟨b, o, sp⟩ → b < w3.heap.size) := Lib.hid (fun b o sp e => (hx3.lt b o sp e).2)
  have bs2 := hb2.size
  have bs3 := hb3.size
  clear b2 q02 q12 hb2 hb3 hx2
  gi_wp2_with fail
  refine (liftC (ranges_c _ _ _ _ _ hx3.rd (by omega))).mono ?_
  rintro e w4 ⟨Bx, R, nR, cR, rfl, hBx, hnR, kx, hoR, hb4⟩
  have b4 := below_call b3 hb4
  have q04 := q03.call (Nat.le_refl _) hb4
  have q14 := q13.call (Nat.le_refl _) hb4
  have x4 := hx3.call hb4
  have y4 := hy3.call hb4
  have bs4 := hb4.size
  have n0 : min len0 40 ≤ 40 := by omega
  have n1 : min len1 40 ≤ 40 := by omega
  obtain ⟨X, hX⟩ : ∃ X, X = (z0.take len0).take 40 := ⟨_, rfl⟩
  obtain ⟨Y, hY⟩ : ∃ Y, Y = (z1.take len1).take 40 := ⟨_, rfl⟩
  have HX := Lib.hid hX; have HY := Lib.hid hY
  rw [← hX] at x4 hoR
  rw [← hY] at y4
  obtain ⟨nx, hnx⟩ : ∃ nx, nx = min len0 40 := ⟨_, rfl⟩
  obtain ⟨ny, hny⟩ : ∃ ny, ny = min len1 40 := ⟨_, rfl⟩
  have HNX := Lib.hid hnx; have HNY := Lib.hid hny
  rw [← hnx] at n0 x4 hnR ⊢
  rw [← hny] at n1 y4 ⊢
  have kxl := kx.lt
  clear b3 q03 q13 hx3 hy3 hb4 hX hY hnx hny
  have xr4 := x4.rd
  have yr4 := y4.rd
  gi_wp2_with fail
  refine (liftC (of_c _ _ _ _ _ xr4 (by omega))).mono ?_
  rintro e w5 ⟨A5, m5, c5, rfl, hm5, ho5, hb5⟩
  have xr5 := xr4.call (Nat.le_refl _) hb5
  have yr5 := yr4.call (Nat.le_refl _) hb5
  gi_wp2_with fail
  refine (liftC (union_c _ _ _ _ _ _ _ _ _ xr5 yr5 (by omega) (by omega))).mono ?_
  rintro e w6 ⟨A6, m6, c6, rfl, hm6, ho6, hb6⟩
  have xr6 := xr5.call (Nat.le_refl _) hb6
  gi_wp2_with fail
  refine (liftC (meet_c _ _ _ _ _ _ _ _ _ xr6 xr6 (by omega) (by omega))).mono ?_
  rintro e w7 ⟨A7, m7, c7, rfl, hm7, ho7, hb7⟩
  have xr7 := xr6.call (Nat.le_refl _) hb7
  gi_wp2_with fail
  refine (liftC (minus_c _ _ _ _ _ _ _ _ _ xr7 (Rd.nil (A := none)) (by omega) (by omega))).mono ?_
  rintro e w8 ⟨A8, m8, c8, rfl, hm8, ho8, hb8⟩
  have bs5 := hb5.size
  have bs6 := hb6.size
  have bs7 := hb7.size
  have bs8 := hb8.size
  have bb8 : Below w4.heap.size w4 w8 := ((hb5.trans (hb6.mono bs5)).trans (hb7.mono (by omega))).trans (hb8.mono (by omega))
  clear xr5 yr5 xr6 xr7
  have hT9 : T4 (w8.alloc (.cells #[.slice A5 m5 c5, .slice A6 m6 c6, .slice A7 m7 c7, .slice A8 m8 c8] 47)) w4.heap.size w8.heap.size 47 (sel A5 A6 A7 A8) (sel m5 m6 m7 m8) (sel c5 c6 c7 c8) := by
    refine ⟨Bk.new w8 47 _, fun j hj => ?_, apart4 (L := sel5 w4.heap.size w5.heap.size w6.heap.size w7.heap.size w8.heap.size) (fun i hi => ?_) (fun i hi b e => ?_), fun j hj b e => ?_⟩
    · match j with
      | 0 => exact ⟨_, (((ho5.call hb6).call hb7).call hb8).alloc _⟩
      | 1 => exact ⟨_, (((ho6.call hb7).call hb8).lower bs5).alloc _⟩
      | 2 => exact ⟨_, ((ho7.call hb8).lower (by omega)).alloc _⟩
      | 3 => exact ⟨_, (ho8.lower (by omega)).alloc _⟩
    · match i with
      | 0 => exact bs5
      | 1 => exact bs6
      | 2 => exact bs7
      | 3 => exact bs8
    · match i with
      | 0 => exact ho5.lt b 0 none e
      | 1 => exact ho6.lt b 0 none e
      | 2 => exact ho7.lt b 0 none e
      | 3 => exact ho8.lt b 0 none e
    · match j with
      | 0 => have := (ho5.lt b 0 none e).2; omega
      | 1 => have := (ho6.lt b 0 none e).2; omega
      | 2 => have := (ho7.lt b 0 none e).2; omega
      | 3 => have := (ho8.lt b 0 none e).2; omega
  have HT9 := Lib.hid hT9
  have bb9 : Below w4.heap.size w4 (w8.alloc (.cells #[.slice A5 m5 c5, .slice A6 m6 c6, .slice A7 m7 c7, .slice A8 m8 c8] 47)) := bb8.alloc bb8.size _
  have xr9 := xr4.call (Nat.le_refl _) bb9
  have yr9 := yr4.call (Nat.le_refl _) bb9
  clear hT9 ho5 ho6 ho7 ho8 hb5 hb6 hb7 hb8
  gi_wp2_with fail
  have rds := rds_lit2 _ (w8.heap.size + 1) (by simp) Ax Ay nx cx ny cy X Y xr9 yr9 x4.cap y4.cap x4.cmax y4.cmax
  have hXl : X.length ≤ 1000 := by rw [xr4.len]; omega
  have hYl : Y.length ≤ 1000 := by rw [yr4.len]; omega
  have hall : ∀ xs ∈ [X, Y], xs.length ≤ 1000 := by
    intro xs hxs; simp at hxs
    rcases hxs with rfl | rfl
    · exact hXl
    · exact hYl
  refine (liftC (part_a _ _ _ _ _ _ rds (by omega) hall)).mono ?_
  rintro e w10 ⟨A10, m10, c10, rfl, hm10, _, hb10⟩
  have HT10 := Lib.hid ((HT9.out.call ((Below.refl _ _).alloc (Nat.le_refl _) (.cells #[.slice Ax nx cx, .slice Ay ny cy] 22))).call hb10)
  have bb10 : Below w4.heap.size w4 w10 := (bb9.alloc bb9.size _).trans (hb10.mono (by simp; omega))
  clear rds hall hXl hYl hb10 HT9 bb9 xr9 yr9 bb8
  have bs10 := bb10.size
  have q0a := q04.call (Nat.le_refl _) bb10
  have q1a := q14.call (Nat.le_refl _) bb10
  have xra := xr4.call (Nat.le_refl _) bb10
  have yra := yr4.call (Nat.le_refl _) bb10
  gi_wp2_with fail
  refine (liftC (few_c _ _ _ _ _ q0a hlc0 hcm0)).mono ?_
  rintro e w11 ⟨A11, c11, rfl, ho11, hb11⟩
  rw [← HX.out, ← HNX.out] at ho11
  rw [← HNX.out]
  have xr11 := xra.call (Nat.le_refl _) hb11
  have fr11 := ho11.rd
  clear ho11
  gi_wp2_with fail
  refine (liftC (same_b _ _ _ _ _ _ _ _ _ xr11 fr11 (by omega) (by omega))).mono ?_
  rintro e w12 ⟨he, hb12⟩
  rw [decide_eq_true (by rfl)] at he
  subst he
  have bs11 := hb11.size
  have bs12 := hb12.size
  have q1b := (q1a.call (Nat.le_refl _) hb11).call (Nat.le_refl _) hb12
  have yrb := (yra.call (Nat.le_refl _) hb11).call (Nat.le_refl _) hb12
  clear fr11 xr11 q0a q1a xra yra
  gi_wp2_with fail
  refine (liftC (few_c _ _ _ _ _ q1b hlc1 hcm1)).mono ?_
  rintro e w13 ⟨A13, c13, rfl, ho13, hb13⟩
  rw [← HY.out, ← HNY.out] at ho13
  rw [← HNY.out]
  have yr13 := yrb.call (Nat.le_refl _) hb13
  have fr13 := ho13.rd
  have bs13 := hb13.size
  clear ho13 q1b yrb
  gi_wp2_with fail
  refine (liftC (same_b _ _ _ _ _ _ _ _ _ yr13 fr13 (by omega) (by omega))).mono ?_
  rintro e w14 ⟨he, hb14⟩
  rw [decide_eq_true (by rfl)] at he
  subst he
  have bs14 := hb14.size
  have bd14 : Below w10.heap.size w10 w14 := ((hb11.trans (hb12.mono bs11)).trans (hb13.mono (by omega))).trans (hb14.mono (by omega))
  have HT14 := Lib.hid (HT10.out.call bd14)
  have bb14 := bb10.trans (bd14.mono bs10)
  clear fr13 yr13 hb11 hb12 hb13 hb14 bd14 bb10 HT10
  have hN : ∀ j, j < 4 → sel m5 m6 m7 m8 j ≤ 200 := by
    intro j hj
    match j with
    | 0 => show m5 ≤ 200; omega
    | 1 => show m6 ≤ 200; omega
    | 2 => show m7 ≤ 200; omega
    | 3 => show m8 ≤ 200; omega
  have HN := Lib.hid hN
  clear hN
  generalize sel A5 A6 A7 A8 = TA at *
  generalize sel m5 m6 m7 m8 = TN at *
  generalize sel c5 c6 c7 c8 = TC at *
  gi_wp2_with fail
  gi_loopw [13] (fun i wr => ∃ (k : Nat), k ≤ 4 ∧ i = .int .i64 k ∧ T4 wr w4.heap.size w8.heap.size 47 TA TN TC ∧ Below w4.heap.size w4 wr) (fun i _ => 4 - (intOf i).toNat)
  case atStart => exact ⟨0, by omega, rfl, HT14.out, bb14⟩
  case round =>
    obtain ⟨k, hk, rfl, hT, hB⟩ := hrel
    clear bb14 HT14
    by_cases hk4 : k < 4
    · have d1 := hT.at hk4
      have hnk := HN.out k hk4
      have k0 : (0 : Int) ≤ (k : Int) := by omega
      have k4 : (k : Int) < 4 := by omega
      have HT := Lib.hid hT
      clear hT
      gi_wp2_with fail
      gi_loopw [14] (fun j wr => ∃ (q : Nat), q ≤ TN k ∧ j = .int .i64 q ∧ T4 wr w4.heap.size w8.heap.size 47 TA TN TC ∧ Below w4.heap.size w4 wr) (fun j _ => TN k - (intOf j).toNat)
      case atStart => exact ⟨0, by omega, rfl, HT.out, hB⟩
      case round =>
        obtain ⟨q, hq, rfl, hT2, hB2⟩ := hrel
        clear HT hB d1
        by_cases hql : q < TN k
        · obtain ⟨xs, ho⟩ := hT2.rows k hk4
          obtain ⟨g, hg, hg2, _⟩ := ho.form (by omega)
          have d1 := hT2.at hk4
          have HT3 := Lib.hid (hT2.store hk4 hg q a2)
          rw [hg] at ho d1
          obtain ⟨v, hv⟩ := getD_some xs q (by rw [ho.len]; exact hql)
          have c1 := ho.cell hv
          have f1 := ho.frozen q
          have q0 : (0 : Int) ≤ (q : Int) := by omega
          have qn : (q : Int) < (TN k : Int) := by omega
          clear hT2 ho hv hg
          gi_wp2_with fail
          go_roundw
          case rel => exact ⟨q + 1, by omega, by go_num, HT3.out, hB2.setCell hg2 _⟩
          case measure => simp [intOf]; omega
        · have d1 := hT2.at hk4
          have HT3 := Lib.hid hT2
          clear hT2
          gi_wp2_with fail
          go_roundw
          case rel => exact ⟨k + 1, by omega, by go_num, HT3.out, hB2⟩
          case measure => simp [intOf]; omega
    · have t4 : decide ((k : Int) < 4) = false := by simp; omega
      obtain ⟨w15, rfl⟩ : ∃ w15 : World, w15 = wr := ⟨_, rfl⟩
      have bs15 := hB.size
      have q0a := q04.call (Nat.le_refl _) hB
      have q1a := q14.call (Nat.le_refl _) hB
      have xra := xr4.call (Nat.le_refl _) hB
      have yra := yr4.call (Nat.le_refl _) hB
      clear hT q04 q14 xr4 yr4 HN
      gi_wp2_with fail
      refine (liftC (few_c _ _ _ _ _ q0a hlc0 hcm0)).mono ?_
      rintro e w16 ⟨A16, c16, rfl, ho16, hb16⟩
      rw [← HX.out, ← HNX.out] at ho16
      rw [← HNX.out]
      have xr16 := xra.call (Nat.le_refl _) hb16
      have fr16 := ho16.rd
      clear ho16
      gi_wp2_with fail
      refine (liftC (same_b _ _ _ _ _ _ _ _ _ xr16 fr16 (by omega) (by omega))).mono ?_
      rintro e w17 ⟨he, hb17⟩
      rw [decide_eq_true (by rfl)] at he
      subst he
      have bs16 := hb16.size
      have bs17 := hb17.size
      have q1b := (q1a.call (Nat.le_refl _) hb16).call (Nat.le_refl _) hb17
      have yrb := (yra.call (Nat.le_refl _) hb16).call (Nat.le_refl _) hb17
      clear fr16 xr16 q0a q1a xra yra
      gi_wp2_with fail
      refine (liftC (few_c _ _ _ _ _ q1b hlc1 hcm1)).mono ?_
      rintro e w18 ⟨A18, c18, rfl, ho18, hb18⟩
      rw [← HY.out, ← HNY.out] at ho18
      rw [← HNY.out]
      have yr18 := yrb.call (Nat.le_refl _) hb18
      have fr18 := ho18.rd
      have bs18 := hb18.size
      clear ho18 q1b yrb
      gi_wp2_with fail
      refine (liftC (same_b _ _ _ _ _ _ _ _ _ yr18 fr18 (by omega) (by omega))).mono ?_
      rintro e w19 ⟨he, hb19⟩
      rw [decide_eq_true (by rfl)] at he
      subst he
      have bs19 := hb19.size
      have bd19 : Below w15.heap.size w15 w19 := ((hb16.trans (hb17.mono bs16)).trans (hb18.mono (by omega))).trans (hb19.mono (by omega))
      have bb19 := hB.trans (bd19.mono bs15)
      have x19 := x4.call bb19
      have kx19 := kx.below bb19 kxl
      have R19 := hoR.call bb19
      have b19 := below_call b4 bb19
      have xlt := x4.lt
      have rlt := hoR.lt
      clear fr18 yr18 hb16 hb17 hb18 hb19 bd19 hB x4 y4 kx hoR b4
      have hxb : ∀ b, Ax.map (·.block) = some b → w1.heap.size ≤ b ∧ b < w3.heap.size ∨ True := fun _ _ => .inr trivial
      clear hxb
      gi_wp2_with fail
      gi_loopw [16] (fun i wr => ∃ (q : Nat) (xs : List Int), q ≤ nx ∧ i = .int .i64 q ∧ Ow wr w1.heap.size Ax nx cx xs ∧ w19.grownBy wr (Ax.map (·.block))) (fun i _ => nx - (intOf i).toNat)
      case atStart => exact ⟨0, _, by omega, rfl, x19, World.grownBy.refl _ _⟩
      case round =>
        obtain ⟨q, xs, hq, rfl, ho, hG⟩ := hrel
        by_cases hql : q < nx
        · obtain ⟨g, rfl, hg2, _⟩ := ho.form (by omega)
          obtain ⟨v, hv⟩ := getD_some xs q (by rw [ho.len]; exact hql)
          have c1 := ho.cell hv
          have f1 := ho.frozen q
          have HO := Lib.hid (ho.stored q a2)
          have HG := Lib.hid (grownBy_set hG q (.int .i64 a2))
          have q0 : (0 : Int) ≤ (q : Int) := by omega
          have qn : (q : Int) < (nx : Int) := by omega
          clear ho hv hG
          gi_wp2_with fail
          go_roundw
          case rel => exact ⟨q + 1, _, by omega, by go_num, HO.out, HG.out⟩
          case measure => simp [intOf]; omega
        · have hnc := nil_cmp wr #[.pointer (some ⟨Bx, 0, none⟩)]
          have bsG := hG.size
          have bR : Below w.heap.size w wr := b19.grown hG b19.size (fun k e => by
            cases Ax with
            | none => cases e
            | some ad =>
              obtain ⟨b', o', sp'⟩ := ad
              injection e with e
              simp only at e
              have := (xlt b' o' sp' rfl).1
              omega)
          have hgx : ∀ b, w3.heap.size ≤ b → some b ≠ Ax.map (·.block) := by
            intro b hb e
            cases Ax with
            | none => cases e
            | some ad =>
              obtain ⟨b', o', sp'⟩ := ad
              injection e with e
              simp only at e
              have := HXL3.out b' o' sp' rfl
              omega
          have kxr := kx19.grown hG (hgx Bx hBx)
          have RR := R19.keep (w' := wr) (fun b e => hG.block b (R19.lt b 0 none e).2 (hgx b (R19.lt b 0 none e).1))
          have hT := ofL_srt X
          have hin2 : In64 (ofL X) := in64_of (by rw [HX.out]; exact HIN.out)
          have rRR := RR.rd
          clear ho x19 kx19 R19 hG xlt rlt hgx
          obtain ⟨B, hBe⟩ : ∃ B, B = wr.heap.size := ⟨_, rfl⟩
          have hs0 : ((wr.alloc (.cells #[] 30)).alloc (.cells #[.slice (some ⟨wr.heap.size, 0, none⟩) 0 0] 26)).heap.size = B + 1 + 1 := by rw [hBe]; simp
          have k1 : Bk ((wr.alloc (.cells #[] 30)).alloc (.cells #[.slice (some ⟨wr.heap.size, 0, none⟩) 0 0] 26)) (B + 1) 26 #[.slice (some ⟨B, 0, none⟩) 0 0] := by
            have h := Bk.new (wr.alloc (.cells #[] 30)) 26 #[.slice (some ⟨wr.heap.size, 0, none⟩) 0 0]
            rw [World.size_alloc] at h
            rw [hBe]; exact h
          have k2 : Ow2 ((wr.alloc (.cells #[] 30)).alloc (.cells #[.slice (some ⟨wr.heap.size, 0, none⟩) 0 0] 26)) B (some ⟨B, 0, none⟩) 0 0 [] := by
            rw [hBe]
            refine own2_keep (own2_empty wr) fun b e => ?_
            injection e with e; injection e with e; subst e
            exact Below.heap_alloc _ _ _ (by simp)
          have kxR : Bk ((wr.alloc (.cells #[] 30)).alloc (.cells #[.slice (some ⟨wr.heap.size, 0, none⟩) 0 0] 26)) Bx 22 #[.slice R nR cR] := (kxr.alloc _).alloc _
          have hbw : Below B wr ((wr.alloc (.cells #[] 30)).alloc (.cells #[.slice (some ⟨wr.heap.size, 0, none⟩) 0 0] 26)) := by
            rw [hBe]; exact ((Below.refl _ _).alloc (Nat.le_refl _) _).alloc (by simp) _
          have rRW : Rd ((wr.alloc (.cells #[] 30)).alloc (.cells #[.slice (some ⟨wr.heap.size, 0, none⟩) 0 0] 26)) B R nR (ofL X) := by
            have h := (rRR.alloc (Nat.le_refl _) (.cells #[] 30)).alloc (by simp) (.cells #[.slice (some ⟨wr.heap.size, 0, none⟩) 0 0] 26)
            rw [hBe]; exact h
          have hBxl : Bx < B := by rw [hBe]; exact kxr.lt
          have hrl := rgs_length (ofL X)
          rw [rRR.len] at hrl
          have hst := ranges1_stops 4 R nR cR Bx 0 B (ofL X) _ (by omega) (by omega) (kxR.cell 0) kxR.lt rRW (by rw [hs0]; omega) (fun _ _ _ => Nat.zero_le _) hT hin2
          gi_wp2_with fail
          rw [← hBe]
          rw [← hBe] at hst k1 k2 kxR hbw hs0
          have HB := Lib.hid hBe
          clear hBe rRR rRW RR kxr
          generalize hWR : (wr.alloc (.cells #[] 30)).alloc (.cells #[.slice (some ⟨B, 0, none⟩) 0 0] 26) = wR at *
          clear hWR hnc
          have HS0 := Lib.hid hs0
          clear hs0
          refine wpIn_rangeFunc_ownH rfl (by omega) (gf := 40) (lb := #[.pointer (some ⟨Bx, 0, none⟩)]) rfl trivial (enters_of Try.func40 (by kernel_rfl) rfl)
            hst (fun h k => h.trans k)
            (fun W l o o' hl ho _ _ => ⟨World.putObj_heap_other (by have := HS0.out; omega), fun k _ hk => World.putObj_heap_other (by have := HS0.out; omega)⟩) (Below.refl _ _) (fun _ => rfl)
            (RI R nR cR B wR.heap.size Bx wr) (fun _ _ _ => False) (RI.own R nR cR B wR.heap.size Bx _ wr (by have := HS0.out; omega)) (fun _ _ _ _ _ h _ _ => h)
            ⟨⟨some ⟨B, 0, none⟩, 0, 0, k1, k2, rfl, fun g e => .inl (by injection e with e; exact e.symm)⟩, kxR, hbw, Nat.le_refl _⟩
            (fun x a' W => a' = { tmps := #[Value.slice a0 len0 cap0, Value.slice a1 len1 cap1, Value.int IntKind.i64 a2, undef, undef, undef, Value.bool false, Value.bool true, Value.slice Ax nx cx, Value.slice Ay ny cy, Value.func (Fn.func 40) #[] #[Value.pointer (some { block := Bx, off := 0 })], Value.pointer (some { block := w8.heap.size, off := 0 }), Value.bool true, Value.int IntKind.i64 ↑k, u14, Value.bool true, Value.int IntKind.i64 ↑q, Value.pointer (some { block := B + 1, off := 0 }), Value.int .i64 x.1, Value.int .i64 x.2, Value.bool true, Value.slice a0 len0 cap0, Value.slice Ax nx cx, Value.slice a1 len1 cap1, Value.slice Ay ny cy, Value.slice Ax nx cx, Value.func (Fn.func 40) #[] #[Value.pointer (some { block := Bx, off := 0 })], Value.slice Ax nx cx, Value.slice A5 m5 c5, Value.slice Ax nx cx, Value.slice Ay ny cy, Value.slice A6 m6 c6, Value.slice Ax nx cx, Value.slice Ax nx cx, Value.slice A7 m7 c7, Value.slice Ax nx cx, Value.slice A8 m8 c8, Value.agg #[Value.slice A5 m5 c5, Value.slice A6 m6 c6, Value.slice A7 m7 c7, Value.slice A8 m8 c8], Value.slice Ax nx cx, Value.slice Ay ny cy, Value.slice (some { block := w8.heap.size + 1, off := 0 }) 2 2, Value.slice A10 m10 c10, Value.slice Ax nx cx, Value.slice a0 len0 cap0, Value.slice A11 nx c11, Value.bool true, Value.bool true, Value.slice Ay ny cy, Value.slice a1 len1 cap1, Value.slice A13 ny c13, Value.bool true, Value.bool true, Value.int IntKind.i64 ↑k, Value.bool false, u54, u55, u56, u57, u58, u59, u60, u61, u62, u63, u64, u65, u66, u67, u68, u69, Value.slice Ax nx cx, Value.slice a0 len0 cap0, Value.slice A16 nx c16, Value.bool true, Value.bool true, Value.slice Ay ny cy, Value.slice a1 len1 cap1, Value.slice A18 ny c18, Value.bool true, Value.bool true, Value.int IntKind.i64 ↑q, Value.slice Ax nx cx, Value.int IntKind.i64 ↑nx, Value.bool false, u84, u85, u86, u87, u88, u89, Value.bool true, Value.bool false, Value.bool false, Value.func (Fn.func 40) #[] #[Value.pointer (some { block := Bx, off := 0 })], Value.bool false, Value.bool false, Value.slice (some { block := B, off := 0 }) 0 0, Value.func (Fn.func 40) #[] #[Value.pointer (some { block := Bx, off := 0 })], Value.int .i64 x.1, Value.int .i64 x.2, undef, undef, undef, undef, undef, undef, undef, undef, undef, undef, undef, undef, undef, undef, undef, undef, undef], defers := [] }) ?hax ?assign ?body ?done ?stop
          case hax =>
            rintro x a' _ X' Y' row h hg hr
            exact h
          case stop => rintro D c pre W _ _ h _; exact h.elim
          case assign =>
            rintro l pre x W K hi hK
            gi_wp2
            exact hK _ _ (KeepsFrom.refl _ _) (Kp.refl _ _ _ _) hi rfl
          case body =>
            rintro l pre x a' W hl _ ⟨⟨A, m, c', h1, h2, h3, h4⟩, h5, h6, h7⟩ rfl hlen
            obtain ⟨xa, xb⟩ := x
            have c1 := h1.cell 0
            have f1 := h1.frozen 0
            simp only [List.getElem?_toArray, List.getElem?_cons_zero] at c1
            have n1 := h1.ne2 (by decide) h2
            have n5 := h5.ne2 (by decide) h2
            have hszW := h1.lt
            have hml : m ≤ 1000 := by omega
            have fin : ∀ (g2 c2 : Nat) (w2 : World), Ow2 w2 B (some ⟨g2, 0, none⟩) (m + 1) c2 (pre ++ [(xa, xb)]) → W.grownBy w2 (A.map (·.block)) → (A.map (·.block) = some g2 ∨ W.heap.size ≤ g2) →
                Bk w2 (B + 1) 26 #[.slice A m c'] ∧
                (∀ W', W' = w2.setCell ⟨B + 1, 0, none⟩ (.slice (some ⟨g2, 0, none⟩) (m + 1) c2) → KeepsFrom wR.heap.size W W' ∧ Kp Bx 0 B W W' ∧ RI R nR cR B wR.heap.size Bx wr (pre ++ [(xa, xb)]) W') := by
              intro g2 c2 w2 ho2 hg2 hat2
              have hs0 := HS0.out
              have q1 := h1.grown hg2 n1
              have q5 := h5.grown hg2 n5
              refine ⟨q1, ?_⟩
              rintro W' rfl
              have hko : KeepsOthers W w2 := KeepsOthers.of_grownBy hg2 (fun j o e ho => by
                obtain ⟨_, _, _, cur, fr, hh⟩ := own2_lt h2 j e
                rw [hh] at ho; injection ho with ho; subst ho; rfl)
              have hA : ∀ k, A.map (·.block) = some k → B ≤ k := fun k e => (own2_lt h2 k e).1
              have hb2 : Below B W w2 := (Below.refl _ _).grown hg2 (by omega) hA
              have hg2b : g2 = B ∨ wR.heap.size ≤ g2 := by
                rcases hat2 with e | e
                · exact h4 g2 e
                · right; omega
              have m1 := q1.ne2 (by decide) ho2
              have m1' : B + 1 ≠ g2 := fun e => m1 (by rw [e]; rfl)
              have hsz2 := hg2.size
              refine ⟨(hko.trans (KeepsOthers.setCell _ _ _)).from _, ⟨?_, fun k hk1 hk2 => ?_⟩, ⟨some ⟨g2, 0, none⟩, m + 1, c2, q1.set_ 0 _, own2_keep ho2 (fun b e => ?_), by simp [h3], fun g e => ?_⟩, q5.far (by dsimp only; omega) _, (h6.trans hb2).setCell (by dsimp only; omega) _, by simp; omega⟩
              · exact (q5.far (by dsimp only; omega) _).trans h5.symm
              · rw [Below.heap_setCell _ _ _ _ (by dsimp only; omega)]
                refine hg2.block k (by omega) (fun e => ?_)
                rcases h4 k e.symm with e2 | e2 <;> omega
              · injection e with e; injection e with e; subst e
                exact Below.heap_setCell _ _ _ _ (by dsimp only; omega)
              · injection e with e; subst e; exact hg2b
            have FIN := Lib.hid fin; clear fin
            have HLN := Lib.hid hlen
            clear n1 n5 hlen h3 h4 h6 h7 h5 f1
            gi_wp2_with (gi_at_builtin; refine app2In rfl (.tmp 100) (.tmp 104) rfl W B _ _ _ pre (xa, xb) (by rfl) (by rfl) h2 (by omega) (by omega) ?_; intro g2 cc2 w2 ho2 hg2 hat2; obtain ⟨q1, FF⟩ := FIN.out g2 cc2 w2 ho2 hg2 hat2; have FF2 := Lib.hid FF; clear FF; have qc := q1.cell 0; have qf := q1.frozen 0; simp only [List.getElem?_toArray, List.getElem?_cons_zero] at qc)
            exact FF2.out _ rfl
          case done =>
            rintro D ys W hD rfl ⟨⟨A, m, c', h1, h2, h3, h4⟩, h5, h6, h7⟩ hK
            have hmn : m ≤ 1000 := by omega
            clear h3
            have c1 := h1.cell 0
            simp only [List.getElem?_toArray, List.getElem?_cons_zero] at c1
            have bW : Below w.heap.size w W := bR.trans (h6.mono (by rw [HB.out]; exact bR.size))
            have q0 := HP0.out.call (Nat.le_refl _) bW
            have hDl : D < W.heap.size := (Array.getElem?_eq_some_iff.1 hK).1
            have hBl : B + 1 < W.heap.size := h1.lt
            have q0d : Rd W.drew W.drew.heap.size a0 len0 (z0.take len0) := q0
            have r2d : Rd2 W.drew W.drew.heap.size A m (rgs (ofL X)) := h2.rd
            have hmix : Try.prog.follows Departure.mixedOrders = true := by kernel_rfl
            clear h4 h5 h7 q0
            gi_wp2_with fail
            refine wpIn_mono (Q := NoPanic _) ?_ NoPanic.imp
            gi_region_with_o (first
              | (gi_at_call 14; refine (liftC (few_c _ _ _ _ _ q0d hlc0 hcm0)).mono ?_; rintro e W2 ⟨A2, c2, rfl, ho2, hb2⟩; have r2 := ho2.rd; rw [← HX.out, ← HNX.out] at r2; have e2 := HNX.out.symm; have c2' : W2.cell? ⟨B + 1, 0, none⟩ = some (.slice A m c') := (hb2.cell (p := ⟨B + 1, 0, none⟩) hBl).trans c1; have p2 := r2d.call (Nat.le_refl _) hb2; have HB2 := Lib.hid hb2; clear ho2 hb2)
              | (gi_at_call 16; refine (liftC (lranges_c _ _ _ _ _ r2 (by omega) (by rw [HX.out]; exact HIN.out))).mono ?_; rintro e W3 ⟨A3, m3, c3, rfl, hm3, ho3, hb3⟩; have r3 := ho3.rd; have HB3 := Lib.hid hb3; have p3 := p2.call (Nat.le_refl _) hb3; have c3' : W3.cell? ⟨B + 1, 0, none⟩ = some (.slice A m c') := (hb3.cell (p := ⟨B + 1, 0, none⟩) (Nat.lt_of_lt_of_le hBl HB2.out.size)).trans c2'; clear ho3 hb3)
              | (gi_at_call 15; refine (liftC (same2_c _ _ _ _ _ _ _ _ _ p3 r3 (by omega) (by omega))).mono ?_; rintro e W4 ⟨he, hb4⟩; rw [decide_eq_true (by rfl)] at he; subst he; have HB4 := Lib.hid hb4; clear hb4))
            all_goals
              refine NoPanic.normal ?_
              gi_wp2_with fail
              have hK4 : W4.heap[D]? = some (.deferred (some [])) := by
                have l2 := HB2.out.size
                have l3 := HB3.out.size
                exact (HB4.out.block D (by have : D < W2.heap.size := Nat.lt_of_lt_of_le hDl l2; omega)).trans ((HB3.out.block D (Nat.lt_of_lt_of_le hDl l2)).trans ((HB2.out.block D hDl).trans hK))
              have bW4 : Below w.heap.size w W4 := by
                have b2' : Below W.heap.size W W2 := ⟨HB2.out.os, HB2.out.tape, HB2.out.output, HB2.out.size, HB2.out.block⟩
                exact below_call (below_call (below_call bW b2') HB3.out) HB4.out
              refine ⟨by simp, .inl ⟨_, _, rfl, run_takeDeferred hK4, ?_⟩⟩
              have hgp := grownBy_putObj' W4 D (.deferred none)
              refine ⟨_, results_tmp rfl _ _ _, rfl, ?_⟩
              exact bW4.grown hgp bW4.size (fun k e => by
                injection e with e; subst e
                have := bR.size
                have := HB.out
                have := HS0.out
                omega)

end Go.Proofs.Ytladdpfngoldcaa
