/- The iterator of Ranges, told how far it came when it is stopped (as W6). -/
import Derived.Test.YtladdpfngoldcaaW6
namespace Go.Proofs.Ytladdpfngoldcaa
open Go.RowKit Go.Shelf
attribute [local go_sem] Oper.semAt_some

set_option maxRecDepth 100000 in
set_option maxHeartbeats 4000000 in
theorem ranges1_stopsP (m : Nat) (R : Option Addr) (n c Bx Lo Bd : Nat) (T : List Int) (w : World) (hm : 1 ≤ m) (hn : n ≤ 100000) (hBx : w.cell? ⟨Bx, 0, none⟩ = some (.slice R n c)) (hBx2 : Bx < w.heap.size) (hR : Rd w Bd R n T) (hBd : Bd ≤ w.heap.size) (hlo : ∀ b o, R = some ⟨b, o, none⟩ → Lo ≤ b) (hT : Srt T) (hin : In64 T) :
    SeqStopsK Fence.wide m Try.prog 40 #[.pointer (some ⟨Bx, 0, none⟩)] (fun (g : Int × Int) => #[.int .i64 g.1, .int .i64 g.2]) (Kp Bx Lo Bd)
      (fun l => l = rgs T) (fun l => l.length ≤ (rgs T).length) (n + 1) w := by
  intro l J Jx W hbW hJ hJx hY h0
  have HL := Lib.hid hR.len
  have HJ := Lib.hid hJ; clear hJ hJx
  have kW : Kp Bx Lo Bd w W := Kp.of_below hbW hBx2 hBd
  refine callsIn_of_wp Try.func40 rfl trivial ?_ rfl
  simp only [Try.ntmps40, List.size_toArray, List.length_cons, List.length_nil, Nat.reduceAdd, Nat.reduceSub, Array.replicate_succ, Array.replicate_zero, List.push_toArray, List.append_toArray, List.nil_append, List.cons_append]
  have cB : W.cell? ⟨Bx, 0, none⟩ = some (.slice R n c) := (kW.cell (.inl rfl)).trans hBx
  have HY := Lib.hid hY; clear hY
  have HT := Lib.hid hT; have HIN := Lib.hid hin; clear hT hin
  have hFw : ∀ k, Fence.wide.fn k := fun _ => trivial
  gi_wp2
  gi_loopw [3] (fun vf wr => ∃ (f : Nat) (pre : List (Int × Int)), vf = .int .i64 f ∧ f ≤ n ∧ pre.length ≤ f ∧ rgs T = pre ++ rgs (T.drop f) ∧ J pre wr ∧ Kp Bx Lo Bd w wr) (fun vf _ => n - (intOf vf).toNat)
  case atStart => exact ⟨0, [], rfl, by omega, by simp, by simp, h0, kW⟩
  case round =>
    obtain ⟨f, pre, rfl, hf, hpl, hgr, hJs, hkp⟩ := hrel
    have HG := Lib.hid hgr; clear hgr
    have cB2 : wr.cell? ⟨Bx, 0, none⟩ = some (.slice R n c) := (hkp.cell (.inl rfl)).trans hBx
    by_cases hlt : f < n
    · obtain ⟨b, o, rfl, hb, hc⟩ := hR.pos (by omega)
      have hcr : ∀ (i : Nat) (x : Int), T[i]? = some x → wr.cell? ⟨b, o + i, none⟩ = some (.int .i64 x) := fun i x hx => (hkp.cell (.inr ⟨hlo b o rfl, hb⟩)).trans (hc i x hx)
      have HC := Lib.hid hcr; clear hcr hc hlo
      gi_wp2
      gi_loopw [4] (fun v wr2 => ∃ (q d : Nat), v = .int .i64 q ∧ f ≤ q ∧ q < n ∧ wr2 = wr.drewN d ∧ ∀ i, f ≤ i → i < q → ∀ a b, T[i]? = some a → T[i + 1]? = some b → b = a + 1) (fun v _ => n - (intOf v).toNat)
      case atStart => exact ⟨f, 0, rfl, Nat.le_refl _, hlt, rfl, fun i h1 h2 => by omega⟩
      case round =>
        obtain ⟨q, d, rfl, hq1, hq2, rfl, hrun⟩ := hrel
        have HRUN := Lib.hid hrun; clear hrun
        obtain ⟨y, hy⟩ := getD_some T q (by have := HL.out; omega)
        have g1 := HC.out q y hy
        have by_ := HIN.out y (List.mem_of_getElem? hy)
        have HYY := Lib.hid hy; clear hy
        have q0 : (0 : Int) ≤ (q : Int) := by omega
        have qn : (q : Int) < (n : Int) := by omega
        by_cases hq3 : q + 1 < n
        · obtain ⟨z, hz⟩ := getD_some T (q + 1) (by have := HL.out; omega)
          have g2 := HC.out (q + 1) z hz
          have hyz := srt_at HT.out (Nat.lt_succ_self q) HYY.out hz
          have HZ := Lib.hid hz; clear hz
          have bz := HIN.out z (List.mem_of_getElem? HZ.out)
          have q1n : (q : Int) + 1 < (n : Int) := by omega
          by_cases hzy : z = y + 1
          · have e : (z - 1 == y) = true := by simp; omega
            gi_wp2
            gi_quiet (fail)
            gi_wp2
            go_roundw
            case rel => exact ⟨q + 1, d + nq, by go_num, by omega, by omega, by simp, run_next HRUN.out HYY.out HZ.out hzy⟩
            case measure => simp [intOf]; omega
          · have e : (z - 1 == y) = false := by rw [beq_eq_false_iff_ne]; omega
            gi_wp2
            gi_quiet (fail)
            obtain ⟨x, hx⟩ := getD_some T f (by have := HL.out; omega)
            have g3 := HC.out f x hx
            have HX := Lib.hid hx; clear hx
            have hrr := rgs_run hq1 HX.out HYY.out HRUN.out (fun u hu => by rw [HZ.out] at hu; injection hu with hu; omega)
            have HRR := Lib.hid hrr; clear hrr
            have f0 : (0 : Int) ≤ (f : Int) := by omega
            have fn_ : (f : Int) < (n : Int) := by omega
            obtain ⟨fn, tmps, assign, body, hy, hRd⟩ := HY.out pre (x, y) (wr.drewN (d + nq + 1)) (HJ.out _ _ _ none hJs (grown_drewN _ _) (fun r e => by cases e)) (by omega)
            dsimp only at hy
            have hRd2 := hRd.mono (R' := fun e W' => ∃ bb : Bool, e = .returned (.bool bb) ∧ ((bb = true ∧ J (pre ++ [(x, y)]) W' ∧ Kp Bx Lo Bd (wr.drewN (d + nq + 1)) W') ∨ (bb = false ∧ Jx (pre ++ [(x, y)]) W'))) (by
              rintro e W' (⟨he, h1, h2⟩ | ⟨he, h1⟩)
              · exact ⟨true, he, .inl ⟨rfl, h1, h2⟩⟩
              · exact ⟨false, he, .inr ⟨rfl, h1⟩⟩)
            clear hRd
            have mixed : Try.prog.follows Departure.mixedOrders = true := by kernel_rfl
            gi_wp2
            gi_region_with_o (refine hRd2.mono ?_; rintro e W3 ⟨bb, rfl, hPP⟩)
            all_goals
              clear hy hRd2
              rcases hPP with ⟨rfl, hJ3, hk3⟩ | ⟨rfl, hJx3⟩
              · gi_wp2
                go_roundw
                case rel => exact ⟨q + 1, pre ++ [(x, y)], by go_num, by omega, by simp; omega, by rw [HG.out, HRR.out]; simp, hJ3, hkp.trans (Kp.trans (Kp.refl _ _ _ _) hk3)⟩
                case measure => simp [intOf]; omega
              · gi_wp2
                refine bodyPost_ret (results_none rfl _ _ _) rfl ?_
                exact ⟨⟨_, rfl⟩, .inr ⟨_, by rw [HG.out, HRR.out]; simp, hJx3⟩⟩
        · have e : decide ((q : Int) + 1 < (n : Int)) = false := by simp; omega
          gi_wp2
          gi_quiet (fail)
          obtain ⟨x, hx⟩ := getD_some T f (by have := HL.out; omega)
          have g3 := HC.out f x hx
          have HX := Lib.hid hx; clear hx
          have hrr := rgs_run hq1 HX.out HYY.out HRUN.out (fun u hu => by rw [List.getElem?_eq_none (by rw [HL.out]; omega)] at hu; cases hu)
          have HRR := Lib.hid hrr; clear hrr
          have f0 : (0 : Int) ≤ (f : Int) := by omega
          have fn_ : (f : Int) < (n : Int) := by omega
          obtain ⟨fn, tmps, assign, body, hy, hRd⟩ := HY.out pre (x, y) (wr.drewN (d + nq + 1)) (HJ.out _ _ _ none hJs (grown_drewN _ _) (fun r e => by cases e)) (by omega)
          dsimp only at hy
          have hRd2 := hRd.mono (R' := fun e W' => ∃ bb : Bool, e = .returned (.bool bb) ∧ ((bb = true ∧ J (pre ++ [(x, y)]) W' ∧ Kp Bx Lo Bd (wr.drewN (d + nq + 1)) W') ∨ (bb = false ∧ Jx (pre ++ [(x, y)]) W'))) (by
            rintro e W' (⟨he, h1, h2⟩ | ⟨he, h1⟩)
            · exact ⟨true, he, .inl ⟨rfl, h1, h2⟩⟩
            · exact ⟨false, he, .inr ⟨rfl, h1⟩⟩)
          clear hRd
          have mixed : Try.prog.follows Departure.mixedOrders = true := by kernel_rfl
          gi_wp2
          gi_region_with_o (refine hRd2.mono ?_; rintro e W3 ⟨bb, rfl, hPP⟩)
          all_goals
            clear hy hRd2
            rcases hPP with ⟨rfl, hJ3, hk3⟩ | ⟨rfl, hJx3⟩
            · gi_wp2
              go_roundw
              case rel => exact ⟨q + 1, pre ++ [(x, y)], by go_num, by omega, by simp; omega, by rw [HG.out, HRR.out]; simp, hJ3, hkp.trans (Kp.trans (Kp.refl _ _ _ _) hk3)⟩
              case measure => simp [intOf]; omega
            · gi_wp2
              refine bodyPost_ret (results_none rfl _ _ _) rfl ?_
              exact ⟨⟨_, rfl⟩, .inr ⟨_, by rw [HG.out, HRR.out]; simp, hJx3⟩⟩
    · gi_wp2
      go_end0
      refine ⟨⟨_, rfl⟩, .inl ⟨pre, ?_, hJs⟩⟩
      rw [HG.out, List.drop_eq_nil_of_le (by rw [HL.out]; omega)]; simp [rgs]

end Go.Proofs.Ytladdpfngoldcaa
