/- Walks: run, glyphs. -/
import Derived.Test.YtkoocipagndclaaE1
namespace Go.Proofs.Ytkoocipagndclaa
open Go.RowKit Go.Shelf

def runL (xs : List Int) : List Itm := xs.zipIdx.map fun p => ⟨p.1, (p.2 : Nat), 0, 0, 0, 0⟩
theorem runL_len (xs : List Int) : (runL xs).length = xs.length := by simp [runL]
theorem runL_next {xs : List Int} {j : Nat} {x : Int} (h : xs[j]? = some x) : (runL xs).take (j + 1) = (runL xs).take j ++ [⟨x, (j : Nat), 0, 0, 0, 0⟩] := by
  have e : (runL xs)[j]? = some ⟨x, (j : Nat), 0, 0, 0, 0⟩ := by unfold runL; simp [List.getElem?_map, List.getElem?_zipIdx, h]
  rw [List.take_add_one, e]; rfl
theorem itc_snoc' (xs : List Itm) (it : Itm) : itc (xs ++ [it]) = itc xs ++ itmC it := by rw [itc_app]; simp [itc]

set_option maxRecDepth 100000 in
set_option maxHeartbeats 1000000 in
theorem run_c (A : Option Addr) (n c : Nat) (xs : List Int) (w : World) (h : Rd w (lo w.heap.size) A n xs) (hn : n ≤ 1000) :
    Calls Try.prog 31 #[.slice A n c] w fun e w' => ∃ A' c', e = .returned (.slice A' n c') ∧ Ow 51 6 w' w.heap.size A' n c' (itc (runL xs)) ∧ Below w.heap.size w w' := by
  have HL := Lib.hid h.len
  go_enter Try.func31, Try.ntmps31
  go_wp2
  go_loopw [3, 4] (fun s8 s9 wr => ∃ (j c : Nat) (A : Option Addr), j ≤ n ∧ s9 = .int .i64 j ∧ s8 = .slice A j c ∧ Ow 51 6 wr w.heap.size A j c (itc ((runL xs).take j)) ∧ Below w.heap.size w wr) (fun _ i _ => n - (intOf i).toNat)
  case atStart => exact ⟨0, 0, _, by omega, rfl, rfl, own_empty w _ _, (Below.refl _ _).alloc (Nat.le_refl _) _⟩
  case round =>
    obtain ⟨j, c, A', hj, rfl, rfl, ho, hbr⟩ := hrel
    have hsr := h.call hbr
    by_cases hlt : j < n
    · obtain ⟨x, hx⟩ := at_some xs j (by have := HL.out; omega)
      obtain ⟨b, o, rfl, _, hc⟩ := hsr.pos (by omega)
      obtain ⟨cs, rfl, hcc⟩ := hc j x hx
      have g0 := hcc 0 _ rfl
      rw [Nat.mul_one, Nat.add_zero] at g0
      have HUN := Lib.hid (runL_next hx)
      have jz : (0 : Int) ≤ (j : Int) := by omega
      have jn : (j : Int) < (n : Int) := by omega
      clear hx hc hcc
      have ho2 := ho.alloc (.cells #[.int .i64 x, .int .i64 (j : Int), .int .i64 0, .int .i64 0, .int .i64 0, .int .i64 0] 51)
      have hb2 := hbr.alloc hbr.size (.cells #[.int .i64 x, .int .i64 (j : Int), .int .i64 0, .int .i64 0, .int .i64 0, .int .i64 0] 51)
      have hN := news_new wr [.int .i64 x, .int .i64 (j : Int), .int .i64 0, .int .i64 0, .int .i64 0, .int .i64 0] 51
      have hBB : w.heap.size ≤ (wr.alloc (.cells #[.int .i64 x, .int .i64 (j : Int), .int .i64 0, .int .i64 0, .int .i64 0, .int .i64 0] 51)).heap.size := hb2.size
      go_wp2_with (at_builtin; refine appP elt_item rfl _ _ rfl _ w.heap.size _ _ _ _ _ _ _ [.int .i64 x, .int .i64 (j : Int), .int .i64 0, .int .i64 0, .int .i64 0, .int .i64 0] (by rfl) (by rfl) ho2 rfl hN (by simp [Value.oneCell']) (by omega) hBB ?_; intro A2 c2 w2 ho' hg' hb' hat')
      go_roundw
      case rel => exact ⟨j + 1, c2, A2, by omega, by go_num, rfl, by rw [HUN.out, itc_snoc']; exact ho', hb2.trans hb'⟩
      case measure => simp [intOf]; omega
    · have hj2 : j = n := by omega
      subst hj2
      have hge : decide ((j : Int) < (j : Int)) = false := by simp
      have htk : (runL xs).take j = runL xs := List.take_of_length_le (by rw [runL_len, HL.out]; exact Nat.le_refl _)
      have HT := Lib.hid htk
      clear htk
      go_wp2
      go_ret
      rw [← HT.out]
      exact ⟨_, _, rfl, ho, hbr⟩

set_option maxRecDepth 100000 in
set_option maxHeartbeats 1000000 in
theorem glyphs_c (A : Option Addr) (n c : Nat) (xs : List Itm) (A' : Option Addr) (m d : Nat) (ys : List Int) (w : World) (h : RdI w (lo w.heap.size) A n xs) (h' : Rd w (lo w.heap.size) A' m ys) (hn : n ≤ 1000000) (hm : m ≤ 1000000) :
    Calls Try.prog 32 #[.slice A n c, .slice A' m d] w fun e w' => e = .returned (.bool (decide (xs.map (·.g) = ys))) ∧ Below w.heap.size w w' := by
  have HL := Lib.hid h.len; have HM := Lib.hid h'.len
  by_cases hnm : n = m
  · subst hnm
    have tq : ((n : Int) != (n : Int)) = false := by simp
    go_enter Try.func32, Try.ntmps32
    go_wp2
    go_loopw [5] (fun i wr => ∃ k d : Nat, k ≤ n ∧ i = .int .i64 k ∧ (xs.take k).map (·.g) = ys.take k ∧ wr = w.drewN d) (fun i _ => n - (intOf i).toNat)
    case atStart => exact ⟨0, 0, by omega, rfl, rfl, rfl⟩
    case round =>
      obtain ⟨k, d', hk, rfl, heq, rfl⟩ := hrel
      have HE := Lib.hid heq; clear heq
      by_cases hlt : k < n
      · obtain ⟨x, hx⟩ := at_some xs k (by have := HL.out; omega)
        obtain ⟨y, hy⟩ := at_some ys k (by have := HM.out; omega)
        obtain ⟨b, o, rfl, _, hc⟩ := h.pos (by omega)
        obtain ⟨cs, rfl, hcc⟩ := hc k x hx
        have g0 := hcc 0 _ rfl
        rw [Nat.add_zero] at g0
        obtain ⟨b2, o2, rfl, _, hc2⟩ := h'.pos (by omega)
        obtain ⟨cs, rfl, hcc2⟩ := hc2 k y hy
        have y0 := hcc2 0 _ rfl
        rw [Nat.mul_one, Nat.add_zero] at y0
        have HX := Lib.hid hx; have HY := Lib.hid hy
        have kz : (0 : Int) ≤ (k : Int) := by omega
        have kn : (k : Int) < (n : Int) := by omega
        clear hx hy hc hcc hc2 hcc2
        by_cases hxy : x.g = y
        · subst hxy
          go_wp2
          go_quiet (fail)
          go_wp2
          go_roundw
          case rel => exact ⟨k + 1, _, by omega, by go_num, by rw [List.take_add_one, List.take_add_one, HX.out, HY.out, List.map_append, HE.out]; rfl, rfl⟩
          case measure => simp [intOf]; omega
        · have e : (x.g != y) = true := by simpa using hxy
          go_wp2
          go_quiet (fail)
          go_wp2
          go_ret
          refine ⟨ret_bool ?_, by simp; exact below_drewN (Below.refl _ _) _⟩
          symm
          rw [decide_eq_false_iff_not]
          intro hall
          apply hxy
          have h1 := HY.out
          rw [← hall, List.getElem?_map, HX.out] at h1
          simpa using h1
      · have hk' : k = n := by omega
        subst hk'
        have hge : decide ((k : Int) < (k : Int)) = false := by simp
        go_wp2
        go_ret
        refine ⟨ret_bool ?_, below_drewN (Below.refl _ _) _⟩
        symm
        rw [decide_eq_true_iff]
        have := HE.out
        rw [List.take_of_length_le (by have := HL.out; omega), List.take_of_length_le (by have := HM.out; omega)] at this
        exact this
  · have tq : ((n : Int) != (m : Int)) = true := by simp; omega
    have tq' : (n != m) = true := by simp; omega
    have hne : decide (xs.map (·.g) = ys) = false := by
      rw [decide_eq_false_iff_not]
      intro h
      have := congrArg List.length h
      rw [List.length_map, HL.out, HM.out] at this
      exact hnm this
    have HN := Lib.hid hne
    clear hne
    go_enter Try.func32, Try.ntmps32
    go_wp2
    go_ret
    exact ⟨ret_bool HN.out.symm, Below.refl _ _⟩

end Go.Proofs.Ytkoocipagndclaa
