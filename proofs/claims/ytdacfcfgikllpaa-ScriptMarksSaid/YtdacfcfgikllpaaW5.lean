/- Walks: the reference's Group, Cluster, Clusters. -/
import Derived.Test.YtdacfcfgikllpaaW4
namespace Go.Proofs.Ytdacfcfgikllpaa
open Go.RowKit

set_option maxHeartbeats 400000 in
theorem group_c (A : Option Addr) (n c at_ : Nat) (xs : List Int) (w : World) (hA : Rd w w.heap.size A n xs) (hn : n ≤ 1000000) (hat : at_ < n) :
    Calls Try.prog 31 #[.slice A n c, .int .i64 at_] w fun e w' => e = .returned (.int .i64 (grp xs at_ : Nat)) ∧ w = w' := by
  have HL := Lib.hid hA.len
  obtain ⟨b, o, rfl, _, hc⟩ := hA.pos (by omega)
  have HC := Lib.hid hc; clear hc
  go_enter Try.func31, Try.ntmps31
  go_wp2
  go_loop [1] (fun i => ∃ k : Nat, k ≤ at_ ∧ i = .int .i64 k ∧ grp xs at_ = grp xs k) (fun i => (intOf i).toNat)
  case atStart => exact ⟨at_, by omega, by go_num, rfl⟩
  case round =>
    obtain ⟨k, hk, rfl, hq⟩ := hrel
    have HQ := Lib.hid hq; clear hq
    obtain ⟨x, hx⟩ := getD_some xs k (by have := HL.out; omega)
    have c1 := HC.out k x hx
    have HX := Lib.hid hx; clear hx
    by_cases hlt : 0 < k
    · by_cases h3 : kind x = 3
      · have H3 := Lib.hid h3
        go_wp2_with (go_at_call 13; refine (rkind_c _ _).mono ?_; rintro e w' ⟨rfl, rfl⟩)
        go_round
        case rel => exact ⟨k - 1, by omega, by go_num, by rw [HQ.out, grp_mark hlt HX.out H3.out]⟩
        case measure => simp [intOf]; omega
      · have t3 : (kind x == 3) = false := by rw [beq_eq_false_iff_ne]; exact h3
        have H3 := Lib.hid h3; clear h3
        go_wp2_with (go_at_call 13; refine (rkind_c _ _).mono ?_; rintro e w' ⟨rfl, rfl⟩)
        go_ret
        exact ⟨ret_int (by rw [HQ.out, grp_self HX.out H3.out]), rfl⟩
    · obtain rfl : k = 0 := by omega
      go_wp2
      go_ret
      exact ⟨ret_int (by rw [HQ.out]; simp [grp]), rfl⟩

theorem getD_of {xs : List Int} {k : Nat} {x : Int} (h : xs[k]? = some x) : xs.getD k 0 = x := by simp [h]

set_option maxHeartbeats 1000000 in
theorem cluster_c (A : Option Addr) (n c at_ : Nat) (xs : List Int) (w : World) (hA : Rd w w.heap.size A n xs) (hn : n ≤ 1000000) (hat : at_ < n) :
    Calls Try.prog 27 #[.slice A n c, .int .i64 at_] w fun e w' => e = .returned (.int .i64 (clu xs at_ : Nat)) ∧ w = w' := by
  have HL := Lib.hid hA.len
  have HA := Lib.hid hA
  obtain ⟨b, o, rfl, _, hc⟩ := hA.pos (by omega)
  have HC := Lib.hid hc; clear hc
  have hgl := grp_le xs at_
  have hcu : clu xs at_ = if kind (xs.getD (cback xs (grp xs at_) (grp xs at_)) 0) = 4 then cback xs (grp xs at_) (grp xs at_) else grp xs at_ := rfl
  have HCU := Lib.hid hcu; clear hcu
  go_enter Try.func27, Try.ntmps27
  go_wp2_with (go_at_call 31; refine (group_c _ _ _ _ _ _ HA.out hn hat).mono ?_; rintro e w' ⟨rfl, rfl⟩)
  go_loop [6] (fun i => ∃ k f : Nat, k ≤ at_ ∧ k ≤ f ∧ i = .int .i64 k ∧ cback xs (grp xs at_) (grp xs at_) = cback xs f k) (fun i => (intOf i).toNat)
  case atStart => exact ⟨grp xs at_, grp xs at_, by omega, by omega, by go_num, rfl⟩
  case round =>
    obtain ⟨k, f, hk, hf, rfl, hq⟩ := hrel
    have HQ := Lib.hid hq; clear hq
    obtain ⟨x, hx⟩ := getD_some xs k (by have := HL.out; omega)
    have c1 := HC.out k x hx
    have HX := Lib.hid hx; clear hx
    have fin : cback xs f k = k → (kind x = 4 → clu xs at_ = k) ∧ (kind x ≠ 4 → clu xs at_ = grp xs at_) := by
      intro h
      have h1 := HCU.out
      rw [HQ.out, h, getD_of HX.out] at h1
      constructor
      · intro h4; rw [h1, if_pos h4]
      · intro h4; rw [h1, if_neg h4]
    have FIN := Lib.hid fin; clear fin
    by_cases hlt : 0 < k
    · by_cases h5 : kind x = 5
      · obtain ⟨f', hf', hst⟩ := cback_step hlt hf HX.out h5
        have HST := Lib.hid hst; clear hst
        have hg1 := grp_le xs (k - 1)
        have gc := fun w0 h => group_c (some ⟨b, o, none⟩) n c (k - 1) xs w0 h hn (by omega)
        have e1 : ((k - 1 : Nat) : Int) = (k : Int) - 1 := by omega
        rw [e1] at gc
        have GC := Lib.hid gc; clear gc e1
        go_wp2_with (first | (go_at_call 13; refine (rkind_c _ _).mono ?_; rintro e w' ⟨rfl, rfl⟩) | (go_at_call 31; (with_reducible refine (GC.out _ HA.out).mono ?_); rintro e w' ⟨rfl, rfl⟩))
        go_round
        case rel => exact ⟨grp xs (k - 1), f', by omega, hf', by go_num, by rw [HQ.out, HST.out]⟩
        case measure => simp [intOf]; omega
      · have t5 : (kind x == 5) = false := by rw [beq_eq_false_iff_ne]; exact h5
        have hst := cback_stop (f := f) HX.out h5
        have HST := Lib.hid hst; clear hst h5
        by_cases h4 : kind x = 4
        · have hh := (FIN.out HST.out).1 h4
          have HH := Lib.hid hh; clear hh
          go_wp2_with (go_at_call 13; refine (rkind_c _ _).mono ?_; rintro e w' ⟨rfl, rfl⟩)
          go_ret
          exact ⟨ret_int (by rw [HH.out]), rfl⟩
        · have hh := (FIN.out HST.out).2 h4
          have HH := Lib.hid hh; clear hh
          have t4 : (kind x == 4) = false := by rw [beq_eq_false_iff_ne]; exact h4
          go_wp2_with (go_at_call 13; refine (rkind_c _ _).mono ?_; rintro e w' ⟨rfl, rfl⟩)
          go_ret
          exact ⟨ret_int (by rw [HH.out]), rfl⟩
    · obtain rfl : k = 0 := by omega
      rw [Nat.add_zero] at c1
      have hn0 : 0 < n := by omega
      have hst := cback_zero xs f
      have HST := Lib.hid hst; clear hst
      by_cases h4 : kind x = 4
      · have hh := (FIN.out HST.out).1 h4
        have HH := Lib.hid hh; clear hh
        go_wp2_with (go_at_call 13; refine (rkind_c _ _).mono ?_; rintro e w' ⟨rfl, rfl⟩)
        go_ret
        exact ⟨ret_int (by rw [HH.out]; rfl), rfl⟩
      · have hh := (FIN.out HST.out).2 h4
        have HH := Lib.hid hh; clear hh
        have t4 : (kind x == 4) = false := by rw [beq_eq_false_iff_ne]; exact h4
        go_wp2_with (go_at_call 13; refine (rkind_c _ _).mono ?_; rintro e w' ⟨rfl, rfl⟩)
        go_ret
        exact ⟨ret_int (by rw [HH.out]), rfl⟩

/-- Places, as ints. -/
def ints (l : List Nat) : List Int := l.map (fun (k : Nat) => (k : Int))

set_option maxHeartbeats 1000000 in
theorem rclusters_c (A : Option Addr) (n c : Nat) (xs : List Int) (w : World) (hA : Rd w w.heap.size A n xs) (hn : n ≤ 1000000) :
    Calls Try.prog 21 #[.slice A n c] w fun e w' => ∃ A' m c', e = .returned (.slice A' m c') ∧ m ≤ n ∧ Ow w' w.heap.size A' m c' (ints (rclusters xs)) ∧ Below w.heap.size w w' := by
  have HL := Lib.hid hA.len
  go_enter Try.func21, Try.ntmps21
  go_wp2
  go_loopw [3, 4] (fun v i wr => ∃ (k : Nat) (g m c' : Nat), k ≤ n ∧ m ≤ k ∧ i = .int .i64 k ∧ v = .slice (some ⟨g, 0, none⟩) m c' ∧ Ow wr w.heap.size (some ⟨g, 0, none⟩) m c' (ints ((List.range k).filter fun i => decide (clu xs i = i))) ∧ Below w.heap.size w wr) (fun _ i _ => n - (intOf i).toNat)
  case atStart => exact ⟨0, _, 0, 0, by omega, by omega, rfl, rfl, own_empty w, (Below.refl _ _).alloc (Nat.le_refl _) _⟩
  case round =>
    obtain ⟨k, g, m, c', hk, hm, rfl, rfl, hO, hB⟩ := hrel
    by_cases hlt : k < n
    · have hAr := (hA.below hB).more hB.size
      have HAR := Lib.hid hAr; clear hAr
      have hst := rclusters_step xs k
      have hsz := hB.size
      by_cases hcl : clu xs k = k
      · rw [if_pos hcl] at hst
        have HST := Lib.hid hst; clear hst
        go_wp2_with (first | (go_at_call 27; refine (cluster_c _ _ _ _ xs _ HAR.out hn hlt).mono ?_; rintro e w' ⟨rfl, rfl⟩) | (at_builtin; refine app1 rfl _ _ rfl wr w.heap.size _ _ _ _ _ (by rfl) (by rfl) hO (by omega) hsz ?_; intro g2 c2 w2 ho2 hg2 hb2 hat2 hcap2))
        go_roundw
        case rel =>
          refine ⟨k + 1, g2, m + 1, c2, by omega, by omega, by go_num, rfl, ?_, hB.trans hb2⟩
          rw [HST.out]; unfold ints; rw [List.map_append]; exact ho2
        case measure => simp [intOf]; omega
      · rw [if_neg hcl, List.append_nil] at hst
        have HST := Lib.hid hst; clear hst
        have t : (((clu xs k : Nat) : Int) == (k : Int)) = false := by rw [beq_eq_false_iff_ne]; omega
        go_wp2_with (first | (go_at_call 27; refine (cluster_c _ _ _ _ xs _ HAR.out hn hlt).mono ?_; rintro e w' ⟨rfl, rfl⟩))
        go_roundw
        case rel =>
          refine ⟨k + 1, g, m, c', by omega, by omega, by go_num, rfl, ?_, hB⟩
          rw [HST.out]; exact hO
        case measure => simp [intOf]; omega
    · go_wp2
      go_ret
      obtain rfl : k = n := by omega
      refine ⟨_, _, _, rfl, hm, ?_, hB⟩
      unfold rclusters; rw [HL.out]; exact hO

end Go.Proofs.Ytdacfcfgikllpaa
