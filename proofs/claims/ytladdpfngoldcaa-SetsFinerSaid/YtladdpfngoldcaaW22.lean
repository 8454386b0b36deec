/- Walks: SetsFiner. -/
import Derived.Test.YtladdpfngoldcaaW21
namespace Go.Proofs.Ytladdpfngoldcaa
open Go.RowKit
attribute [local go_sem ↓] Go.wp_at_zero Go.wp_at_succ

theorem below_dr {B : Nat} {a w : World} (h : Below B a w) : Below B a w.drew := ⟨h.os, h.tape, h.output, h.size, h.block⟩
theorem OwV.drew {w : World} {base n c : Nat} {A : Option Addr} {vs : List Value} (h : OwV w base A n c vs) : OwV w.drew base A n c vs := h
theorem all1000 {yss : List (List Int)} {x : List Int} (h : ∀ xs ∈ yss, xs.length ≤ 1000) (hx : x.length ≤ 1000) : ∀ xs ∈ yss ++ [x], xs.length ≤ 1000 := by
  intro xs hm
  rcases List.mem_append.1 hm with hm | hm
  · exact h xs hm
  · simp at hm; subst hm; exact hx
theorem all1000b {yss : List (List Int)} {n : Nat} (h : ∀ xs ∈ yss, xs.length ≤ 1000) (hn : n ≤ 1000) : ∀ xs ∈ yss ++ [upto n, []], xs.length ≤ 1000 := by
  intro xs hm
  rcases List.mem_append.1 hm with hm | hm
  · exact h xs hm
  · simp at hm
    rcases hm with rfl | rfl
    · simp [upto]; exact hn
    · simp
theorem all1000c {yss : List (List Int)} (h : ∀ xs ∈ yss, xs.length ≤ 1000) : ∀ xs ∈ dbl yss 0, xs.length ≤ 1000 := fun xs hm => h xs ((dbl_mem _ _).1 hm)

theorem OwV.addr {w : World} {base n c : Nat} {A : Option Addr} {vs : List Value} (h : OwV w base A n c vs) {k : Nat} (hk : A.map (·.block) = some k) : A = some ⟨k, 0, none⟩ ∧ base ≤ k ∧ k < w.heap.size := by
  cases A with
  | none => cases hk
  | some ad =>
    obtain ⟨b, o, sp⟩ := ad
    injection hk with hk
    simp only at hk
    subst hk
    rcases h.2 with ⟨e, _⟩ | ⟨g, cap, cur, e, hg, hh, _⟩
    · cases e
    · have e2 : some (⟨b, o, sp⟩ : Addr) = some ⟨g, 0, none⟩ := by injection e
      have hl := h.lt b o sp rfl
      injection e2 with e2; injection e2 with e3 e4 e5
      subst e3; subst e4; subst e5
      exact ⟨rfl, hl⟩
theorem new_addr {w w' : World} {n c : Nat} {A : Option Addr} {vs : List Value} (h : OwV w' w.heap.size A n c vs) (hat : A.map (·.block) = (some (⟨w.heap.size, 0, none⟩ : Addr)).map (·.block) ∨ A.map (·.block) = some (w.alloc (.cells #[] 22)).heap.size) : ∃ k, A = some ⟨k, 0, none⟩ ∧ w.heap.size ≤ k ∧ k < w'.heap.size := by
  rcases hat with e | e
  · exact ⟨_, h.addr e⟩
  · exact ⟨_, h.addr e⟩

set_option maxRecDepth 100000 in
set_option maxHeartbeats 4000000 in
theorem setsFiner_walk (a0 : Int) (a1 : Option Addr) (len1 cap1 : Nat) (xss : List (List Int)) (a2 : Option Addr) (len2 cap2 : Nat) (z2 : List Int) (w : World) (w0 : (Lit.int .u8 a0).wf = true) (w1 : IsRows w a1 len1 cap1 xss) (w2 : IsRow .i64 w a2 len2 cap2 z2) :
    Calls Try.prog 6 #[.int .u8 a0, .slice a1 len1 cap1, .slice a2 len2 cap2] w fun e w' => e = .returned (.bool true) ∧ Below w.heap.size w w' := by
  obtain ⟨r0, hlc, hcm⟩ := w1
  obtain ⟨x0, hlc2, hcm2⟩ := w2.rd
  clear w2
  have hb0 : 0 ≤ a0 ∧ a0 ≤ 255 := by
    have := w0
    simp only [Lit.wf, Bool.and_eq_true, decide_eq_true_eq] at this
    exact ⟨this.1, this.2⟩
  obtain ⟨hb1, hb2⟩ := hb0
  clear w0
  obtain ⟨q, hq⟩ : ∃ q : Nat, (q : Int) = 1 + a0 % 40 := ⟨(1 + a0 % 40).toNat, by omega⟩
  have hq1 : 1 ≤ q := by omega
  have hq2 : q ≤ 40 := by omega
  have HQ := Lib.hid hq
  clear hq
  go_enter Try.func6, Try.ntmps6
  go_wp2_with fail
  refine (lshown_c _).mono ?_
  rintro e w1 ⟨rfl, b1⟩
  have r1 := r0.call (Nat.le_refl _) b1
  have x1 := x0.call (Nat.le_refl _) b1
  clear r0 x0
  go_upto_region 2 with fail
  go_cut [8] (fun s wx => s = .int .i64 (q : Int) ∧ wx = w1)
  case first =>
    go_wp2_with fail
    go_meet
    exact ⟨by rw [HQ.out], rfl⟩
  obtain ⟨rfl, rfl⟩ := hcut
  clear HQ hb1 hb2
  go_wp2_with fail
  refine (rows_c _ _ _ _ _ r1 (by omega)).mono ?_
  rintro e w2 ⟨g, M, c, vs, rfl, hM, ho2, hs2, hbb⟩
  have b2 := below_call b1 hbb
  have x2 := x1.call (Nat.le_refl _) hbb
  have hl := fews_len xss 6
  have HL := Lib.hid hl
  clear hbb b1 r1 hl x1
  generalize fews xss 6 = yss at *
  go_wp2_with fail
  refine (part_a _ _ _ _ _ _ (rds_of ho2 hs2) (by omega) HL.out).mono ?_
  rintro e w3 ⟨A3, m3, c3, rfl, hm3, q3, hb3⟩
  rw [partA_nat yss hq1 (by omega)] at q3
  obtain rfl : m3 = q := by have := q3.len; unfold partL at this; rw [partF_length] at this; exact this.symm
  have b3 := below_call b2 hb3
  have ho3 := ho2.call hb3
  have hs3 := hs2.call hb3
  have x3 := x2.call (Nat.le_refl _) hb3
  have HSL := Lib.hid (sls_sl hs3)
  have v3 := ho3.rd (sls_sl hs3)
  have yl : yss.length = M := by rw [← hs3.1, ho3.len]
  have YL := Lib.hid yl
  clear b2 hb3 yl hm3 ho2 hs2 x2
  -- q
  go_wp2_with (at_builtin; refine appV rfl (.tmp 30) (.tmp 31) rfl _ w3.heap.size _ _ _ [] _ _ _ _ _ (by rfl) (by rfl) (ownV_empty w3) (v3.lit _) (by omega) (by simp) ?_; intro A4 c4 w4 ho4 hg4 hb4 hat4; rw [Nat.zero_add, List.nil_append] at ho4)
  have bb4 : Below w3.heap.size w3 w4 := ((Below.refl w3.heap.size w3).alloc (Nat.le_refl _) (.cells #[] 22)).trans hb4
  have b4 := below_call b3 bb4
  have x4 := x3.call (Nat.le_refl _) bb4
  have bs4 := bb4.size
  refine (few_c _ _ _ _ _ x4 hlc2 hcm2).mono ?_
  rintro e w5 ⟨A5, c5, rfl, ho5, hb5⟩
  obtain ⟨k4, rfl, hk4, hk4'⟩ := new_addr ho4 hat4
  have hs5 := ((hs3.fresh hk4).call bb4).call hb5
  have hx5 : SlA w5 k4 (.slice A5 (min len2 40) c5) ((z2.take len2).take 40) := ⟨A5, _, c5, rfl, ho5.rd, ho5.cap, ho5.cmax, fun _ b o e => by have := (ho5.lt b o none e).1; omega⟩
  have hs5' := hs5.snoc hx5
  have ho4' := ho4.call hb5
  have bs5 := hb5.size
  have xl5 : ((z2.take len2).take 40).length ≤ 1000 := by rw [List.length_take]; omega
  generalize (z2.take len2).take 40 = X at *
  have HS5 := Lib.hid hs5'
  have bb5 := bb4.trans (hb5.mono bs4)
  clear hs5 hx5 hs5' hg4 hb4 hat4 ho4 bb4 b4 ho5 x4 x3 hb5
  go_wp2_with (at_builtin; refine app1V rfl (.tmp 32) (.tmp 35) rfl w5 w3.heap.size _ _ _ _ _ _ _ (by rfl) (by rfl) ho4' (by omega) (by omega) ?_; intro g6 c6 w6 ho6 hg6 hb6 hat6)
  have hs6 := HS5.out.grow hg6 hat6
  have bb6 := bb5.trans hb6
  have b6 := below_call b3 bb6
  have v6 := v3.call (Nat.le_refl _) bb6
  have p6 := q3.call (Nat.le_refl _) bb6
  have hw6 := hs3.call bb6
  have ow6 := ho3.call bb6
  clear hg6 hat6 hb6 bb5 bb6 b3 v3 q3 hs3 ho3 HS5 ho4'
  refine (part_a _ _ _ _ _ _ (rds_of ho6 hs6) (by omega) (all1000 HL.out xl5)).mono ?_
  rintro e w7 ⟨A7, m7, c7, rfl, hm7, q7, hb7⟩
  rw [partA_nat _ hq1 (by omega)] at q7
  obtain rfl : m7 = m3 := by have := q7.len; unfold partL at this; rw [partF_length] at this; exact this.symm
  have b7 := below_call b6 hb7
  have v7 := v6.call (Nat.le_refl _) hb7
  have p7 := p6.call (Nat.le_refl _) hb7
  have hw7 := hw6.call hb7
  have ow7 := ow6.call hb7
  clear hb7 b6 v6 p6 hw6 ow6 ho6 hs6 hm7
  go_wp2_with fail
  go_loopw [12, 13] (fun v i wr => ∃ (k g c : Nat), k ≤ m7 ∧ i = .int .i64 k ∧ v = .slice (some ⟨g, 0, none⟩) k c ∧ Ow wr w7.heap.size (some ⟨g, 0, none⟩) k c (upto k) ∧ Below w7.heap.size w7 wr) (fun _ i _ => m7 - (intOf i).toNat)
  case atStart => exact ⟨0, w7.heap.size, 0, by omega, rfl, rfl, own_empty w7, (Below.refl _ _).alloc (Nat.le_refl _) _⟩
  case round =>
    obtain ⟨k, gA, cA, hk, rfl, rfl, hA, hB⟩ := hrel
    have bsr := hB.size
    by_cases hlt : k < m7
    · go_wp2_with (at_builtin; refine app1 rfl (.tmp 44) (.tmp 46) rfl wr w7.heap.size _ _ _ _ _ (by rfl) (by rfl) hA (by omega) (by omega) ?_; intro g9 c9 w9 ho9 hg9 hb9 hat9 hcap9)
      go_roundw
      case rel => exact ⟨k + 1, g9, c9, by omega, by go_num, rfl, by rw [upto_succ]; exact ho9, hB.trans hb9⟩
      case measure => simp [intOf]; omega
    · obtain rfl : k = m7 := by omega
      obtain ⟨w8, rfl⟩ : ∃ w8 : World, w8 = wr := ⟨_, rfl⟩
      have b8 := below_call b7 hB
      have v8 := v7.call (Nat.le_refl _) hB
      have p8 := p7.call (Nat.le_refl _) hB
      have q8 := q7.call (Nat.le_refl _) hB
      have hw8 := hw7.call hB
      have ow8 := ow7.call hB
      have gAl := (hA.lt gA 0 none rfl).2
      clear b7 v7 p7 q7 hw7 ow7 hB bsr
      have usl : ∀ u ∈ [Value.slice (some ⟨gA, 0, none⟩) k cA, .slice none 0 0], isSl u := by
        intro u hu; simp at hu
        rcases hu with rfl | rfl
        · exact ⟨_, _, _, rfl⟩
        · exact ⟨_, _, _, rfl⟩
      go_wp2_with first
        | (at_builtin; refine appV rfl (.tmp 48) (.tmp 49) rfl _ w8.heap.size _ _ _ [] _ _ _ _ _ (by rfl) (by rfl) (ownV_empty w8) (v8.lit _) (by omega) (by simp) ?_; intro A9 c9 w9 ho9 hg9 hb9 hat9; rw [Nat.zero_add, List.nil_append] at ho9; have bb9 : Below w8.heap.size w8 w9 := ((Below.refl w8.heap.size w8).alloc (Nat.le_refl _) (.cells #[] 22)).trans hb9; have bs9 := bb9.size; clear hg9 hb9)
        | (at_builtin; refine appV rfl (.tmp 50) (.tmp 52) rfl _ w8.heap.size _ _ _ vs _ _ _ _ [Value.slice (some ⟨gA, 0, none⟩) k cA, .slice none 0 0] (by rfl) (by rfl) (ho9.alloc _) (rdv_lit w9 _ usl 2 rfl) (by omega) (by simp; omega) ?_; intro A10 c10 w10 ho10 hg10 hb10 hat10)
      obtain ⟨k9, rfl, hk9, hk9'⟩ := new_addr ho9 hat9
      have hs9 : Sls (w9.alloc (.cells #[.slice (some ⟨gA, 0, none⟩) k cA, .slice none 0 0] 22)) k9 (vs ++ [.slice (some ⟨gA, 0, none⟩) k cA, .slice none 0 0]) (yss ++ [upto k, []]) := by
        have h1 := ((hw8.fresh hk9).call bb9).call ((Below.refl _ _).alloc (Nat.le_refl _) (.cells #[.slice (some ⟨gA, 0, none⟩) k cA, .slice none 0 0] 22))
        have h2 := ((hA.rd.call (Nat.le_refl _) bb9).lit (.cells #[.slice (some ⟨gA, 0, none⟩) k cA, .slice none 0 0] 22))
        refine h1.app ⟨rfl, fun i u zs e1 e2 => ?_⟩
        match i with
        | 0 =>
          injection e1 with e1; injection e2 with e2; subst e1; subst e2
          exact ⟨_, _, _, rfl, h2, hA.cap, hA.cmax, fun _ b o e => by injection e with e; injection e with e; omega⟩
        | 1 =>
          injection e1 with e1; injection e2 with e2; subst e1; subst e2
          exact ⟨none, 0, 0, rfl, Rd.nil, by omega, by omega, fun h => by omega⟩
        | i + 2 => simp at e1
      obtain ⟨g10, rfl⟩ := ho10.form (by omega)
      have hs10 : Sls w10 g10 (vs ++ [.slice (some ⟨gA, 0, none⟩) k cA, .slice none 0 0]) (yss ++ [upto k, []]) := hs9.grow hg10 (by
        rcases hat10 with e | e
        · exact .inl e.symm
        · exact .inr (Nat.le_of_eq (by injection e with e; exact e.symm)))
      have bb10 : Below w8.heap.size w8 w10 := (bb9.alloc bs9 _).trans hb10
      have b10 := below_call b8 bb10
      have v10 := v8.call (Nat.le_refl _) bb10
      have p10 := p8.call (Nat.le_refl _) bb10
      have q10 := q8.call (Nat.le_refl _) bb10
      have hw10 := hw8.call bb10
      have ow10 := ow8.call bb10
      clear b8 v8 p8 q8 hw8 ow8 hg10 hb10 hat10 hs9 ho9 bb9 bb10 hA hat9
      have hM1 : IntKind.i64.wrap ((M : Int) - 1) = (M : Int) - 1 := IntWalk.i64_in _ (by omega)
      go_wp2_with fail
      go_loopw [15, 16] (fun v i wr => ∃ (t gT cT nT : Nat) (us : List Value), t ≤ M ∧ nT + 2 * t = 2 * M ∧ i = .int .i64 ((t : Int) - 1) ∧ v = .slice (some ⟨gT, 0, none⟩) nT cT ∧ OwV wr w10.heap.size (some ⟨gT, 0, none⟩) nT cT us ∧ Sls wr gT us (dbl yss t) ∧ Below w10.heap.size w10 wr) (fun _ i _ => (intOf i + 1).toNat)
      case atStart => exact ⟨M, w10.heap.size, 0, 0, [], by omega, by omega, rfl, rfl, ownV_empty w10, by rw [← YL.out, dbl_end]; exact ⟨rfl, fun i v ys h => by simp at h⟩, (Below.refl _ _).alloc (Nat.le_refl _) _⟩
      case round =>
        obtain ⟨t, gT, cT, nT, us, ht, hnT, rfl, rfl, hT, hsT, hB⟩ := hrel
        clear hM1
        have bsr := hB.size
        rcases Nat.eq_zero_or_pos t with h0 | h0
        · subst h0
          have t0 : decide ((0 : Int) ≤ ((0 : Nat) : Int) - 1) = false := by decide
          obtain ⟨w11, rfl⟩ : ∃ w11 : World, w11 = wr := ⟨_, rfl⟩
          have b11 := below_call b10 hB
          have p11 := p10.call (Nat.le_refl _) hB
          have q11 := q10.call (Nat.le_refl _) hB
          have hO11 := ho10.call hB
          have hS11 := hs10.call hB
          obtain ⟨bp, op, rfl, _, hcp⟩ := p11.pos (by omega)
          obtain ⟨bq, oq, rfl, _, hcq⟩ := q11.pos (by omega)
          have HCP := Lib.hid (fun i (hi : i < k) => hcp i _ (partF_at (sig yss) hi))
          have HCQ := Lib.hid (fun i (hi : i < k) => hcq i _ (partF_at (sig (yss ++ [X])) hi))
          clear hcp hcq b10 p10 q10 ho10 hs10 hB v10 hw10 ow10 q11
          go_wp2_with fail
          go_loopw [17] (fun i wr => ∃ (i' d : Nat), i' ≤ k ∧ i = .int .i64 i' ∧ wr = w11.drewN d) (fun i _ => k - (intOf i).toNat)
          case atStart => exact ⟨0, 0, by omega, rfl, rfl⟩
          case round =>
            obtain ⟨i, d, hi, rfl, rfl⟩ := hrel
            by_cases hik : i < k
            · go_wp2_with fail
              go_loopw [18] (fun j wr => ∃ (j' d : Nat), j' ≤ i ∧ j = .int .i64 j' ∧ wr = w11.drewN d) (fun j _ => i - (intOf j).toNat)
              case atStart => exact ⟨0, d, by omega, rfl, rfl⟩
              case round =>
                obtain ⟨j, f, hj, rfl, rfl⟩ := hrel
                by_cases hji : j < i
                · have c1 := HCP.out i hik
                  have c2 := HCP.out j (by omega)
                  have c3 := HCQ.out i hik
                  have c4 := HCQ.out j (by omega)
                  have hfin := finer_more yss X i j
                  generalize classOf (sig yss) i = pi at *
                  generalize classOf (sig yss) j = pj at *
                  generalize classOf (sig (yss ++ [X])) i = qi at *
                  generalize classOf (sig (yss ++ [X])) j = qj at *
                  have i0 : (0 : Int) ≤ (i : Int) := by omega
                  have iq : (i : Int) < (k : Int) := by omega
                  have j0 : (0 : Int) ≤ (j : Int) := by omega
                  have jq : (j : Int) < (k : Int) := by omega
                  by_cases hqq : qi = qj
                  · obtain rfl := hfin hqq
                    subst hqq
                    clear hfin
                    go_wp2_with fail
                    go_quiet (fail)
                    go_wp2_with fail
                    go_roundw
                    case rel => exact ⟨j + 1, f + nq, by omega, by go_num, by simp⟩
                    case measure => simp [intOf]; omega
                  · have t1 : ((qi : Int) == (qj : Int)) = false := by rw [beq_eq_false_iff_ne]; omega
                    have t2 : (qi == qj) = false := by rw [beq_eq_false_iff_ne]; exact hqq
                    clear hfin hqq
                    go_wp2_with fail
                    go_quiet (fail)
                    go_wp2_with fail
                    go_roundw
                    case rel => first | exact ⟨j + 1, f + nq, by omega, by go_num, by simp⟩ | ((repeat apply Exists.intro); exact ⟨⟨j + 1, f + nq, by omega, by go_num, by simp⟩, rfl⟩)
                    case measure => simp [intOf]; omega
                · obtain rfl : j = i := by omega
                  go_wp2_with fail
                  go_roundw
                  case rel => exact ⟨j + 1, f, by omega, by go_num, rfl⟩
                  case measure => simp [intOf]; omega
            · have R1 : Rds (w11.drewN d) (w11.drewN d).heap.size _ _ _ := rds_of hO11 hS11
              have R2 : Rds (w11.drewN d) (w11.drewN d).heap.size _ _ _ := rds_of hT hsT
              have P1 : Rd (w11.drewN d) (w11.drewN d).heap.size _ _ _ := p11
              have B1 := below_drewN b11 d
              clear p11 b11 hO11 hS11 hT hsT HCP HCQ
              go_wp2_with fail
              refine (part_a _ _ _ _ _ _ R1 (by omega) (all1000b HL.out (by omega))).mono ?_
              rintro e w12 ⟨A12, m12, c12, rfl, hm12, q12, hb12⟩
              rw [partA_nat _ hq1 (by omega), finer_same] at q12
              have B2 := below_call B1 hb12
              have R3 := R2.call (Nat.le_refl _) hb12
              have P2 := P1.call (Nat.le_refl _) hb12
              clear B1 R1 R2 P1 hb12
              go_wp2_with fail
              refine (same_b _ _ _ _ _ _ _ _ _ q12 P2 (by omega) (by omega)).mono ?_
              rintro e w13 ⟨he, hb13⟩
              rw [decide_eq_true (by rfl)] at he
              subst he
              have B3 := below_call B2 hb13
              have R4 := R3.call (Nat.le_refl _) hb13
              have P3 := P2.call (Nat.le_refl _) hb13
              clear B2 R3 P2 hb13 q12
              go_wp2_with fail
              refine (part_a _ _ _ _ _ _ R4 (by omega) (all1000c HL.out)).mono ?_
              rintro e w14 ⟨A14, m14, c14, rfl, hm14, q14, hb14⟩
              rw [partA_nat _ hq1 (by omega), finer_turned] at q14
              have B4 := below_call B3 hb14
              have P4 := P3.call (Nat.le_refl _) hb14
              clear B3 R4 P3 hb14
              go_wp2_with fail
              refine (same_b _ _ _ _ _ _ _ _ _ q14 P4 (by omega) (by omega)).mono ?_
              rintro e w15 ⟨he, hb15⟩
              rw [decide_eq_true (by rfl)] at he
              subst he
              have B5 := below_call B4 hb15
              go_wp2_with fail
              go_ret
              exact ⟨rfl, B5⟩
        · obtain ⟨t', rfl⟩ : ∃ t', t = t' + 1 := ⟨t - 1, by omega⟩
          have e1 : ((t' + 1 : Nat) : Int) - 1 = (t' : Int) := by omega
          rw [e1]
          clear e1
          obtain ⟨y, hy⟩ : ∃ y, yss[t']? = some y := ⟨_, List.getElem?_eq_getElem (by rw [YL.out]; omega)⟩
          obtain ⟨v, hv⟩ : ∃ v, vs[t']? = some v := ⟨_, List.getElem?_eq_getElem (by rw [ow10.len]; omega)⟩
          have hsv := hw10.2 t' v y hv hy
          have c10 := ow10.cell hv
          have gl := (ow10.lt g 0 none rfl).2
          have gTb := (hT.lt gT 0 none rfl).1
          have hsv2 := (hsv.fresh gTb).call hB
          obtain ⟨Av, nv, cv, rfl, _⟩ := hsv
          have cr := (hB.cell (p := ⟨g, t', none⟩) gl).trans c10
          have hne := World.new_ne wr _ cr
          have usl : ∀ u ∈ [Value.slice Av nv cv, Value.slice Av nv cv], isSl u := by
            intro u hu; simp at hu; subst hu; exact ⟨_, _, _, rfl⟩
          have HD := Lib.hid (dbl_step hy)
          have HS1 := Lib.hid ((hsT.snoc hsv2).snoc hsv2)
          have t0 : (0 : Int) ≤ (t' : Int) := by omega
          have tM : (t' : Int) < (M : Int) := by omega
          clear hy hv hsv2 hsT
          go_wp2_with fail
          go_region_held3 (fun w' => w'.cell? ⟨g, t', none⟩ = some (.slice Av nv cv)) (first | go_keep | exact ck6) (first
            | (refine step_appV (by rfl) (.tmp 62) (.tmp 71) (by rfl) _ w10.heap.size _ _ _ us _ _ _ _ [Value.slice Av nv cv, Value.slice Av nv cv] (by rfl) (by rfl) (by exact hT.alloc _) (by exact rdv_lit wr [Value.slice Av nv cv, Value.slice Av nv cv] usl 2 rfl) (by omega) (by simp; omega) ?_; intro A6 c6 w6 ho6 hg6 hb6 hat6; have bb6 : Below w10.heap.size w10 w6 := (hB.alloc bsr (.cells #[Value.slice Av nv cv, Value.slice Av nv cv] 22)).trans ⟨hb6.os, hb6.tape, hb6.output, hb6.size, hb6.block⟩; have ck6 : w6.cell? ⟨g, t', none⟩ = some (.slice Av nv cv) := (bb6.cell (p := ⟨g, t', none⟩) gl).trans c10))
          obtain ⟨g6, rfl⟩ := ho6.form (by omega)
          have hg6' : (wr.alloc (.cells #[Value.slice Av nv cv, Value.slice Av nv cv] 22)).grownBy w6 (some gT) := ⟨hg6.os, hg6.tape, hg6.output, hg6.size, hg6.block⟩
          have HS6 := Lib.hid (Sls.grow (g' := g6) (HS1.out.call ((Below.refl _ _).alloc (Nat.le_refl _) (.cells #[Value.slice Av nv cv, Value.slice Av nv cv] 22))) hg6' (by
            rcases hat6 with e | e
            · exact .inl e.symm
            · exact .inr (Nat.le_of_eq (by injection e with e; exact e.symm))))
          clear hg6 hat6 hg6' hb6
          go_wp2_with fail
          go_roundw
          case rel =>
            refine ⟨t', g6, c6, nT + 2, _, by omega, by omega, rfl, rfl, ho6, ?_, bb6⟩
            rw [HD.out]
            have := HS6.out
            rw [List.append_assoc, List.append_assoc] at this
            exact this
          case measure => simp [intOf]

end Go.Proofs.Ytladdpfngoldcaa
