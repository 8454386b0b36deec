/- Walks: the symmetric merge. -/
import Derived.Test.YtdacfcfgikllpaaW7
namespace Go.Proofs.Ytdacfcfgikllpaa
open Go.RowKit

/-- What the merge of rows of at most D places does. -/
def SymSaid (S : SP) (D : Nat) : Prop := ∀ (f0 : Nat → Nat) (w : World) (C a m b : Nat), S.St w f0 → a < m → m < b → b ≤ S.L → b - a ≤ D → Srt S.K f0 a m → Srt S.K f0 m b → Apart f0 a m b →
  Calls Try.prog 38 #[.slice (some ⟨S.g, S.z0.length, none⟩) S.L C, .int .i64 a, .int .i64 m, .int .i64 b, .func (.func 33) #[] #[.pointer (some ⟨S.B1, 0, none⟩)]] w fun e w' => e = .returned (.tuple #[]) ∧
      ∃ f', S.St w' f' ∧ Prm f0 f' a b ∧ Srt S.K f' a b ∧ w.grownBy w' (some S.g)

theorem quiet_add_d {P : Program} {f : FuncId} {args : Array Value} {w : World} {a n : Nat} {v : Value}
    (h : Calls P f args (w.drewN (a + n)) fun e w' => e = .returned v ∧ ∃ d, w' = (w.drewN (a + n)).drewN d) :
    Calls P f args (w.drewN (a + n)) fun e w'' => e = .returned v ∧ ∃ m, w'' = w.drewN (a + m) :=
  h.mono fun _ _ ⟨he, d, hm⟩ => ⟨he, n + d, by rw [hm, World.drewN_drewN, Nat.add_assoc]⟩

set_option maxRecDepth 100000 in
set_option maxHeartbeats 4000000 in
theorem sym_left (S : SP) (f0 : Nat → Nat) (w : World) (C a b : Nat) (hS : S.Ok) (h : S.St w f0) (hmb : a + 1 < b) (hbL : b ≤ S.L) (hr : Srt S.K f0 (a + 1) b) (hp : Apart f0 a (a + 1) b) :
  Calls Try.prog 38 #[.slice (some ⟨S.g, S.z0.length, none⟩) S.L C, .int .i64 a, .int .i64 ((a : Int) + 1), .int .i64 b, .func (.func 33) #[] #[.pointer (some ⟨S.B1, 0, none⟩)]] w fun e w' => e = .returned (.tuple #[]) ∧
      ∃ f', S.St w' f' ∧ Prm f0 f' a b ∧ Srt S.K f' a b ∧ w.grownBy w' (some S.g) := by
  have hLn : S.L ≤ 1000000 := by have := hS.len; have := hS.hN; omega
  have HR := Lib.hid hr; have HP := Lib.hid hp; clear hr hp
  have ht : (((a : Int) + 1 - (a : Int)) == 1) = true := by rw [beq_iff_eq]; omega
  go_enter Try.func38, Try.ntmps38
  go_wp2
  go_loopw [10, 11] (fun vi vj wr => ∃ (i j d : Nat), vi = .int .i64 i ∧ vj = .int .i64 j ∧ a + 1 ≤ i ∧ i ≤ j ∧ j ≤ b ∧ (i = a + 1 ∨ S.K (f0 (i - 1)) < S.K (f0 a)) ∧ (j = b ∨ S.K (f0 a) ≤ S.K (f0 j)) ∧ wr = w.drewN d) (fun vi vj _ => (intOf vj).toNat - (intOf vi).toNat)
  case atStart => exact ⟨a + 1, b, 0, by go_num, rfl, by omega, by omega, by omega, .inl rfl, .inl rfl, rfl⟩
  case round =>
    obtain ⟨i, j, d, rfl, rfl, hi1, hij, hjb, hci, hcj, rfl⟩ := hrel
    have HCI := Lib.hid hci; have HCJ := Lib.hid hcj; clear hci hcj
    by_cases hlt : i < j
    · have hcw : ∀ t, t < S.L → w.cell? ⟨S.g, S.z0.length + t, none⟩ = some (.int .i64 (f0 t : Nat)) := fun t ht => h.cell ht
      obtain ⟨c, hc⟩ : ∃ c : Nat, ((i : Int) + (j : Int)) / 2 = (c : Int) := ⟨(i + j) / 2, by omega⟩
      have hc1 : i ≤ c := by omega
      have hc2 : c < j := by omega
      have HC := Lib.hid hc; clear hc
      have hcL : (c : Int) < (S.L : Int) := by omega
      have hc0 : (0 : Int) ≤ (c : Int) := by omega
      have haL : (a : Int) < (S.L : Int) := by omega
      have ha0 : (0 : Int) ≤ (a : Int) := by omega
      have lc := fun q => less_c S f0 (w.drewN q) hS (h.drewN q) (f0 c) (f0 a) (h.lt _ (by omega)) (h.lt _ (by omega))
      have LC := Lib.hid lc; clear lc
      have HH := Lib.hid h; clear h
      by_cases hk : S.K (f0 c) < S.K (f0 a)
      · have t1 := cmp3_lt hk
        have HK := Lib.hid hk; clear hk
        go_wp2
        rw [HC.out]
        go_quiet ((go_at_call 33; exact quiet_add_d (LC.out _)))
        go_wp2
        go_roundw
        case rel => exact ⟨c + 1, j, _, by go_num, rfl, by omega, by omega, hjb, .inr HK.out, HCJ.out, rfl⟩
        case measure => simp [intOf]; omega
      · have t1 := cmp3_ge hk
        have HK := Lib.hid hk; clear hk
        go_wp2
        rw [HC.out]
        go_quiet ((go_at_call 33; exact quiet_add_d (LC.out _)))
        go_wp2
        go_roundw
        case rel => exact ⟨i, c, d + nq, rfl, rfl, hi1, by omega, by omega, HCI.out, .inr (by have := HK.out; omega), by simp⟩
        case measure => simp [intOf]; omega
    · obtain rfl : i = j := by omega
      go_wp2
      go_loopw [13] (fun vk wr => ∃ (k : Nat), vk = .int .i64 k ∧ a ≤ k ∧ k ≤ i - 1 ∧ S.St wr (rot f0 a (a + 1) (k + 1)) ∧ w.grownBy wr (some S.g)) (fun vk _ => i - (intOf vk).toNat)
      case atStart => exact ⟨a, rfl, by omega, by omega, by rw [rot_up_zero]; exact h.drewN d, grownBy_drewN (World.grownBy.refl w _) d⟩
      case round =>
        obtain ⟨k, rfl, hk1, hk2, hst, hgr⟩ := hrel
        by_cases hk : k < i - 1
        · have HSU := Lib.hid (rot_up_succ f0 a k hk1)
          generalize rot f0 a (a + 1) (k + 1) = f2 at hst HSU
          have hcw : ∀ t, t < S.L → wr.cell? ⟨S.g, S.z0.length + t, none⟩ = some (.int .i64 (f2 t : Nat)) := fun t ht => hst.cell ht
          have hfw : ∀ t, t < S.L → wr.frozen? ⟨S.g, S.z0.length + t, none⟩ = false := fun t _ => hst.frozen _
          have HST := Lib.hid hst; clear hst h
          go_wp2
          go_region
          all_goals go_wp2
          go_roundw
          case rel =>
            refine ⟨k + 1, by go_num, by omega, by omega, ?_, ?_⟩
            · rw [HSU.out]; exact (HST.out.swap hS (by omega) (by omega)).drewN 1
            · exact grownBy_drewN (grownBy_set (grownBy_set hgr _ _) _ _) 1
          case measure => simp [intOf]; omega
        · obtain rfl : k = i - 1 := by omega
          go_wp2
          refine bodyPost_ret (results_none rfl _ _ _) rfl ?_
          rw [show i - 1 + 1 = i by omega] at hst
          refine ⟨rfl, _, hst, (Prm.rot f0 (by omega) (by omega)).mono (Nat.le_refl _) hjb, ?_, hgr⟩
          exact merge_left HR.out HP.out hi1 hjb HCI.out HCJ.out

set_option maxRecDepth 100000 in
set_option maxHeartbeats 4000000 in
theorem sym_right (S : SP) (f0 : Nat → Nat) (w : World) (C a m : Nat) (hS : S.Ok) (h : S.St w f0) (hma : a + 1 < m) (hbL : m + 1 ≤ S.L) (hl : Srt S.K f0 a m) (hp : Apart f0 a m (m + 1)) :
  Calls Try.prog 38 #[.slice (some ⟨S.g, S.z0.length, none⟩) S.L C, .int .i64 a, .int .i64 m, .int .i64 ((m : Int) + 1), .func (.func 33) #[] #[.pointer (some ⟨S.B1, 0, none⟩)]] w fun e w' => e = .returned (.tuple #[]) ∧
      ∃ f', S.St w' f' ∧ Prm f0 f' a (m + 1) ∧ Srt S.K f' a (m + 1) ∧ w.grownBy w' (some S.g) := by
  have hLn : S.L ≤ 1000000 := by have := hS.len; have := hS.hN; omega
  have HR := Lib.hid hl; have HP := Lib.hid hp; clear hl hp
  have ht0 : (((m : Int) - (a : Int)) == 1) = false := by rw [beq_eq_false_iff_ne]; omega
  have ht : (((m : Int) + 1 - (m : Int)) == 1) = true := by rw [beq_iff_eq]; omega
  go_enter Try.func38, Try.ntmps38
  go_wp2
  go_loopw [14, 15] (fun vi vj wr => ∃ (i j d : Nat), vi = .int .i64 i ∧ vj = .int .i64 j ∧ a ≤ i ∧ i ≤ j ∧ j ≤ m ∧ (i = a ∨ S.K (f0 (i - 1)) ≤ S.K (f0 m)) ∧ (j = m ∨ S.K (f0 m) < S.K (f0 j)) ∧ wr = w.drewN d) (fun vi vj _ => (intOf vj).toNat - (intOf vi).toNat)
  case atStart => exact ⟨a, m, 0, by go_num, rfl, by omega, by omega, by omega, .inl rfl, .inl rfl, rfl⟩
  case round =>
    obtain ⟨i, j, d, rfl, rfl, hi1, hij, hjb, hci, hcj, rfl⟩ := hrel
    have HCI := Lib.hid hci; have HCJ := Lib.hid hcj; clear hci hcj
    by_cases hlt : i < j
    · have hcw : ∀ t, t < S.L → w.cell? ⟨S.g, S.z0.length + t, none⟩ = some (.int .i64 (f0 t : Nat)) := fun t ht => h.cell ht
      obtain ⟨c, hc⟩ : ∃ c : Nat, ((i : Int) + (j : Int)) / 2 = (c : Int) := ⟨(i + j) / 2, by omega⟩
      have hc1 : i ≤ c := by omega
      have hc2 : c < j := by omega
      have HC := Lib.hid hc; clear hc
      have hcL : (c : Int) < (S.L : Int) := by omega
      have hc0 : (0 : Int) ≤ (c : Int) := by omega
      have haL : (m : Int) < (S.L : Int) := by omega
      have ha0 : (0 : Int) ≤ (m : Int) := by omega
      have lc := fun q => less_c S f0 (w.drewN q) hS (h.drewN q) (f0 m) (f0 c) (h.lt _ (by omega)) (h.lt _ (by omega))
      have LC := Lib.hid lc; clear lc
      have HH := Lib.hid h; clear h
      by_cases hk : S.K (f0 m) < S.K (f0 c)
      · have t1 := cmp3_lt hk
        have HK := Lib.hid hk; clear hk
        go_wp2
        rw [HC.out]
        go_quiet ((go_at_call 33; exact quiet_add_d (LC.out _)))
        go_wp2
        go_roundw
        case rel => exact ⟨i, c, d + nq, rfl, rfl, hi1, by omega, by omega, HCI.out, .inr HK.out, by simp⟩
        case measure => simp [intOf]; omega
      · have t1 := cmp3_ge hk
        have HK := Lib.hid hk; clear hk
        go_wp2
        rw [HC.out]
        go_quiet ((go_at_call 33; exact quiet_add_d (LC.out _)))
        go_wp2
        go_roundw
        case rel => exact ⟨c + 1, j, d + nq, by go_num, rfl, by omega, by omega, hjb, .inr (by have := HK.out; rw [show c + 1 - 1 = c by omega]; omega), HCJ.out, by simp⟩
        case measure => simp [intOf]; omega
    · obtain rfl : i = j := by omega
      go_wp2
      go_loopw [17] (fun vk wr => ∃ (k : Nat), vk = .int .i64 k ∧ i ≤ k ∧ k ≤ m ∧ S.St wr (rot f0 k m (m + 1)) ∧ w.grownBy wr (some S.g)) (fun vk _ => (intOf vk).toNat)
      case atStart => exact ⟨m, rfl, by omega, by omega, by rw [rot_dn_zero]; exact h.drewN d, grownBy_drewN (World.grownBy.refl w _) d⟩
      case round =>
        obtain ⟨k, rfl, hk1, hk2, hst, hgr⟩ := hrel
        by_cases hk : i < k
        · obtain ⟨q, rfl⟩ : ∃ q, k = q + 1 := ⟨k - 1, by omega⟩
          have HSU := Lib.hid (rot_dn_succ f0 m q (by omega))
          generalize rot f0 (q + 1) m (m + 1) = f2 at hst HSU
          have hcw : ∀ t, t < S.L → wr.cell? ⟨S.g, S.z0.length + t, none⟩ = some (.int .i64 (f2 t : Nat)) := fun t ht => hst.cell ht
          have hfw : ∀ t, t < S.L → wr.frozen? ⟨S.g, S.z0.length + t, none⟩ = false := fun t _ => hst.frozen _
          have HST := Lib.hid hst; clear hst h
          go_wp2
          go_region
          all_goals go_wp2
          go_roundw
          case rel =>
            refine ⟨q, by go_num, by omega, by omega, ?_, ?_⟩
            · rw [HSU.out]; exact (HST.out.swap hS (by omega) (by omega)).drewN 1
            · exact grownBy_drewN (grownBy_set (grownBy_set hgr _ _) _ _) 1
          case measure => simp [intOf]
        · obtain rfl : k = i := by omega
          go_wp2
          refine bodyPost_ret (results_none rfl _ _ _) rfl ?_
          refine ⟨rfl, _, hst, (Prm.rot f0 (by omega) (by omega)).mono (by omega) (Nat.le_refl _), ?_, hgr⟩
          exact merge_right HR.out HP.out hi1 hjb HCI.out HCJ.out

end Go.Proofs.Ytdacfcfgikllpaa
