/- Walks: SetsClasses. -/
import Derived.Test.YtladdpfngoldcaaW19
import Derived.Deep.DeepCutAuto
namespace Go.Proofs.Ytladdpfngoldcaa
open Go.RowKit

theorem partA_nat (yss : List (List Int)) {q : Nat} (h1 : 1 ≤ q) (h2 : q ≤ 65536) : partA yss (q : Int) = partL yss q := by
  unfold partA; rw [if_pos ⟨by omega, by omega⟩, Int.toNat_natCast]
def alk (yss : List (List Int)) (i j t : Nat) : Bool := decide (sig (yss.take t) i = sig (yss.take t) j)
theorem alk_zero (yss : List (List Int)) (i j : Nat) : alk yss i j 0 = true := by unfold alk; simp [sig]
theorem alk_succ {yss : List (List Int)} {t : Nat} {ys : List Int} (h : yss[t]? = some ys) (i j : Nat) : alk yss i j (t + 1) = (alk yss i j t && (decide ((i : Int) ∈ ys) == decide ((j : Int) ∈ ys))) := by
  unfold alk
  rw [Bool.eq_iff_iff, decide_eq_true_eq, sig_snoc h, Bool.and_eq_true, decide_eq_true_eq, beq_iff_eq, decide_eq_decide]
theorem alk_all (yss : List (List Int)) (i j : Nat) : alk yss i j yss.length = decide (sig yss i = sig yss j) := by unfold alk; rw [List.take_length]

set_option maxRecDepth 100000 in
set_option maxHeartbeats 4000000 in
theorem setsClasses_walk (a0 : Int) (a1 : Option Addr) (len1 cap1 : Nat) (xss : List (List Int)) (w : World) (w0 : (Lit.int .u8 a0).wf = true) (w1 : IsRows w a1 len1 cap1 xss) :
    Calls Try.prog 7 #[.int .u8 a0, .slice a1 len1 cap1] w fun e w' => e = .returned (.bool true) ∧ Below w.heap.size w w' := by
  obtain ⟨r0, hlc, hcm⟩ := w1
  have hb0 : 0 ≤ a0 ∧ a0 ≤ 255 := by
    have := w0
    simp only [Lit.wf, Bool.and_eq_true, decide_eq_true_eq] at this
    exact ⟨this.1, this.2⟩
  obtain ⟨hb1, hb2⟩ := hb0
  clear w0
  obtain ⟨q, hq⟩ : ∃ q : Nat, (q : Int) = 1 + a0 % 40 := ⟨(1 + a0 % 40).toNat, by omega⟩
  have hq1 : 1 ≤ q := by omega
  have hq2 : q ≤ 40 := by omega
  have HQ := Lib.hid hq
  clear hq
  go_enter Try.func7, Try.ntmps7
  go_wp2_with fail
  refine (lshown_c _).mono ?_
  rintro e w1 ⟨rfl, b1⟩
  have r1 := r0.call (Nat.le_refl _) b1
  clear r0
  go_upto_region 2 with fail
  go_cut [6] (fun s wx => s = .int .i64 (q : Int) ∧ wx = w1)
  case first =>
    go_wp2_with fail
    go_meet
    exact ⟨by rw [HQ.out], rfl⟩
  obtain ⟨rfl, rfl⟩ := hcut
  clear HQ hb1 hb2
  go_wp2_with fail
  refine (rows_c _ _ _ _ _ r1 (by omega)).mono ?_
  rintro e w2 ⟨g, M, c, vs, rfl, hM, ho, hs, hbb⟩
  have b2 := below_call b1 hbb
  have r2 := rds_of ho hs
  have hl := fews_len xss 6
  have HL := Lib.hid hl
  clear hbb b1 r1 ho hs hl
  generalize fews xss 6 = yss at *
  go_wp2_with fail
  refine (part_a _ _ _ _ _ _ r2 (by omega) HL.out).mono ?_
  rintro e w3 ⟨A3, m3, c3, rfl, hm3, q3, hb3⟩
  rw [partA_nat yss hq1 (by omega)] at q3
  obtain rfl : m3 = q := by have := q3.len; unfold partL at this; rw [partF_length] at this; exact this.symm
  have b3 := below_call b2 hb3
  have r3 := r2.call (Nat.le_refl _) hb3
  have yl := r3.1
  have YL := Lib.hid yl
  clear b2 r2 hb3 yl hm3
  obtain ⟨bp, op, rfl, _, hcp⟩ := q3.pos (by omega)
  have HCP := Lib.hid (fun i (hi : i < m3) => hcp i _ (partF_at (sig yss) hi))
  clear hcp q3
  go_wp2_with fail
  go_loopw [9, 10] (fun s i wr => ∃ (k d : Nat), k ≤ m3 ∧ i = .int .i64 k ∧ s = .int .i64 ((nF (sig yss) k : Int) - 1) ∧ wr = w3.drewN d) (fun _ i _ => m3 - (intOf i).toNat)
  case atStart => exact ⟨0, 0, by omega, rfl, rfl, rfl⟩
  case round =>
    obtain ⟨i, d, hi, rfl, rfl, rfl⟩ := hrel
    by_cases hlt : i < m3
    · have c1 := HCP.out i hlt
      have hcl := class_le (sig yss) i
      have hns := nF_succ (sig yss) i
      have hnl := nF_le (sig yss) i
      have hmax : ∃ mx : Int, mx = (nF (sig yss) (i + 1) : Int) - 1 ∧ ((mx = (classOf (sig yss) i : Int) ∧ (nF (sig yss) i : Int) - 1 < classOf (sig yss) i) ∨ (mx = (nF (sig yss) i : Int) - 1 ∧ (classOf (sig yss) i : Int) ≤ (nF (sig yss) i : Int) - 1)) := by
        refine ⟨_, rfl, ?_⟩
        by_cases hf : firstOf (sig yss) i = i
        · rw [if_pos hf] at hns; rw [class_new hf] at *; left; omega
        · rw [if_neg hf] at hns
          have hf' : firstOf (sig yss) i < i := by have := fo_le (sig yss) i; omega
          have := nF_lt (sig yss) hf' (fo_fo _ _)
          have e : classOf (sig yss) i = nF (sig yss) (firstOf (sig yss) i) := rfl
          right; omega
      obtain ⟨mx, hmx, hcase⟩ := hmax
      have HMX := Lib.hid hmx
      have HCE := Lib.hid (fun j => class_eq (sig yss) i j)
      clear hns hmx
      generalize hcv : classOf (sig yss) i = cv at *
      generalize hnv : nF (sig yss) i = nv at *
      have HCV := Lib.hid hcv
      clear hnv hcv
      have i0 : (0 : Int) ≤ (i : Int) := by omega
      have iq : (i : Int) < (m3 : Int) := by omega
      have t0 : decide ((cv : Int) < 0) = false := by simp
      have t1 : decide ((nv : Int) - 1 + 1 < (cv : Int)) = false := by simp; omega
      have t1' : decide (nv < cv) = false := by simp; omega
      have HMC := Lib.hid hcase
      clear hcase
      have one : True := trivial
      cases one with
      | intro =>
        go_wp2_with fail
        go_loopw [11] (fun j wr => ∃ (p e : Nat), p ≤ i ∧ j = .int .i64 p ∧ wr = w3.drewN e) (fun j _ => i - (intOf j).toNat)
        case atStart => exact ⟨0, d, by omega, rfl, rfl⟩
        case round =>
          obtain ⟨j, e, hj, rfl, rfl⟩ := hrel
          by_cases hjl : j < i
          · have c2 := HCP.out j (by omega)
            have j0 : (0 : Int) ≤ (j : Int) := by omega
            have jq : (j : Int) < (m3 : Int) := by omega
            have heq : ((cv : Int) == (classOf (sig yss) j : Int)) = decide (sig yss i = sig yss j) := by
              rw [Bool.eq_iff_iff, beq_iff_eq, decide_eq_true_eq, ← HCE.out j]; omega
            obtain ⟨E, hE⟩ : ∃ E, decide (sig yss i = sig yss j) = E := ⟨_, rfl⟩
            rw [hE] at heq
            generalize classOf (sig yss) j = cj at *
            have HE := Lib.hid hE
            have HEQ := Lib.hid heq
            have C2 := Lib.hid c2
            clear hE heq c2
            go_wp2_with fail
            go_loopw [12, 13] (fun al t wr => ∃ (p f : Nat), p ≤ M ∧ t = .int .i64 p ∧ al = .bool (alk yss i j p) ∧ wr = w3.drewN f) (fun _ t _ => M - (intOf t).toNat)
            case atStart => exact ⟨0, e, by omega, rfl, by rw [alk_zero], rfl⟩
            case round =>
              obtain ⟨t, f, ht, rfl, rfl, rfl⟩ := hrel
              by_cases htl : t < M
              · obtain ⟨b, o, e3, hbw, hc⟩ := r3.pos (by omega)
                injection e3 with e3; injection e3 with e31 e32
                have e31' := e31.symm; have e32' := e32.symm
                subst e31'; subst e32'
                clear e31 e32
                obtain ⟨ys, hys⟩ : ∃ ys, yss[t]? = some ys := ⟨_, List.getElem?_eq_getElem (by rw [YL.out]; exact htl)⟩
                obtain ⟨Ai, ni, ci, d1, r1', _, _⟩ := hc t ys hys
                rw [Nat.zero_add] at d1
                have hxl := HL.out ys (List.mem_of_getElem? hys)
                rw [r1'.len] at hxl
                have hal := alk_succ hys i j
                have cx := fun n0 => has_c Ai ni ci ys (i : Int) (w3.drewN n0) (r1'.drewN n0) (by omega)
                have cy := fun n0 => has_c Ai ni ci ys (j : Int) (w3.drewN n0) (r1'.drewN n0) (by omega)
                obtain ⟨P, hP⟩ : ∃ P, decide ((i : Int) ∈ ys) = P := ⟨_, rfl⟩
                obtain ⟨R, hR⟩ : ∃ R, decide ((j : Int) ∈ ys) = R := ⟨_, rfl⟩
                rw [hP] at cx hal
                rw [hR] at cy hal
                obtain ⟨L, hL⟩ : ∃ L, alk yss i j t = L := ⟨_, rfl⟩
                rw [hL] at hal ⊢
                have CX := Lib.hid cx; have CY := Lib.hid cy; have HAL := Lib.hid hal
                clear cx cy hal hP hR hL r1' hc hys
                have t0' : (0 : Int) ≤ (t : Int) := by omega
                have tM : (t : Int) < (M : Int) := by omega
                have c8 : (L = false) ∨ (L = true ∧ P = true ∧ R = true) ∨ (L = true ∧ P = true ∧ R = false) ∨ (L = true ∧ P = false ∧ R = true) ∨ (L = true ∧ P = false ∧ R = false) := by cases L <;> cases P <;> cases R <;> simp
                rcases c8 with h | ⟨h, h1, h2⟩ | ⟨h, h1, h2⟩ | ⟨h, h1, h2⟩ | ⟨h, h1, h2⟩
                · subst h
                  go_wp2_with fail
                  go_quiet (fail)
                  go_wp2_with fail
                  go_roundw
                  case rel => first | exact ⟨t + 1, f + nq, by omega, by go_num, by rw [HAL.out]; rfl, by simp⟩ | ((repeat apply Exists.intro); refine ⟨?rr, ?ff⟩; case ff => rfl; case rr => exact ⟨t + 1, f + nq, by omega, by go_num, by rw [HAL.out]; rfl, by simp⟩)
                  case measure => simp [intOf]; omega
                all_goals
                  subst h; subst h1; subst h2
                  go_wp2_with fail
                  go_quiet ((first | (go_at_call 24; (with_reducible refine quiet_add_left (CX.out _))) | (go_at_call 24; (with_reducible refine quiet_add_left (CY.out _)))))
                  go_wp2_with fail
                  go_roundw
                  case rel => first | exact ⟨t + 1, f + nq, by omega, by go_num, by rw [HAL.out]; rfl, by simp⟩ | ((repeat apply Exists.intro); refine ⟨?rr, ?ff⟩; case ff => rfl; case rr => exact ⟨t + 1, f + nq, by omega, by go_num, by rw [HAL.out]; rfl, by simp⟩)
                  case measure => simp [intOf]; omega
              · obtain rfl : t = M := by omega
                have hal : alk yss i j t = E := by
                  have := alk_all yss i j
                  rw [YL.out] at this; rw [this, HE.out]
                rw [hal]
                clear hal
                have c2 := C2.out
                have heq := HEQ.out
                cases E with
                | true =>
                  go_wp2_with fail
                  go_quiet (fail)
                  go_wp2_with fail
                  go_roundw
                  case rel => exact ⟨j + 1, f + nq, by omega, by go_num, by simp⟩
                  case measure => simp [intOf]; omega
                | false =>
                  go_wp2_with fail
                  go_quiet (fail)
                  go_wp2_with fail
                  go_roundw
                  case rel => exact ⟨j + 1, f + nq, by omega, by go_num, by simp⟩
                  case measure => simp [intOf]; omega
          · obtain rfl : j = i := by omega
            go_wp2_with fail
            go_roundw
            case rel => exact ⟨j + 1, e, by omega, by go_num, by rw [← HMX.out]; congr 1; rcases HMC.out with h | h <;> rw [Int.max_def] <;> split <;> omega, rfl⟩
            case measure => simp [intOf]; omega
    · go_wp2_with fail
      go_ret
      exact ⟨rfl, below_drewN b3 _⟩

end Go.Proofs.Ytladdpfngoldcaa
