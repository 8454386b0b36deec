/- Walks: sift, Meet, Minus, Sub. -/
import Derived.Test.YtladdpfngoldcaaW3
namespace Go.Proofs.Ytladdpfngoldcaa
open Go.RowKit

def siftL (xs ys : List Int) (so : Bool) : List Int := (ofL xs).filter fun n => decide (n ∈ ys) == so
theorem siftL_srt (xs ys : List Int) (so : Bool) : Srt (siftL xs ys so) := List.Pairwise.filter _ (ofL_srt xs)

/-- Where the search in a rising list stands still. -/
theorem stand_mem {T : List Int} (hT : Srt T) {p : Nat} {x : Int} (hlow : ∀ y ∈ T.take p, y < x) (hp : ∀ y, T[p]? = some y → x ≤ y) : x ∈ T ↔ T[p]? = some x := by
  refine ⟨fun h => ?_, fun h => List.mem_of_getElem? h⟩
  obtain ⟨i, hi, rfl⟩ := List.mem_iff_getElem.1 h
  have hip : ¬ i < p := fun hlt => by
    have := hlow T[i] (List.mem_iff_getElem.2 ⟨i, by simp; omega, by simp⟩)
    omega
  by_cases e : i = p
  · subst e; exact List.getElem?_eq_getElem hi
  · have hpl : p < T.length := by omega
    have h1 := srt_at hT (i := p) (j := i) (by omega) (List.getElem?_eq_getElem hpl) (List.getElem?_eq_getElem hi)
    have h2 := hp _ (List.getElem?_eq_getElem hpl)
    omega
theorem take_filter_snoc {S : List Int} {k : Nat} {x : Int} (h : S[k]? = some x) (f : Int → Bool) : (S.take (k + 1)).filter f = (S.take k).filter f ++ (if f x then [x] else []) := by
  rw [List.take_add_one, h]
  simp [List.filter_append, List.filter_cons]
theorem low_next {S T : List Int} (hS : Srt S) {k p : Nat} {x : Int} (h : S[k]? = some x) (hlow : ∀ y ∈ T.take p, y < x) : ∀ y ∈ T.take p, ∀ z ∈ S.drop (k + 1), y < z := by
  intro y hy z hz
  have h1 := hlow y hy
  obtain ⟨i, hi, rfl⟩ := List.mem_iff_getElem.1 hz
  simp at hi
  have h2 := srt_at hS (i := k) (j := k + 1 + i) (by omega) h (List.getElem?_eq_getElem (by omega))
  rw [List.getElem_drop]; omega
theorem low_here {S T : List Int} {k p : Nat} {x : Int} (h : S[k]? = some x) (hlow : ∀ y ∈ T.take p, ∀ z ∈ S.drop k, y < z) : ∀ y ∈ T.take p, y < x := by
  intro y hy
  refine hlow y hy x ?_
  obtain ⟨hk, rfl⟩ := List.getElem?_eq_some_iff.1 h
  exact List.mem_iff_getElem.2 ⟨0, by simp; omega, by simp⟩
theorem low_snoc {T : List Int} {p : Nat} {x y : Int} (h : T[p]? = some y) (hlt : y < x) (hlow : ∀ y ∈ T.take p, y < x) : ∀ y ∈ T.take (p + 1), y < x := by
  rw [List.take_add_one, h]
  intro z hz
  rcases List.mem_append.1 hz with hz | hz
  · exact hlow z hz
  · simp at hz; omega

set_option maxRecDepth 100000 in
set_option maxHeartbeats 4000000 in
theorem sift_c (A : Option Addr) (n c : Nat) (xs : List Int) (B : Option Addr) (m d : Nat) (ys : List Int) (so : Bool) (w : World) (hA : Rd w w.heap.size A n xs) (hB : Rd w w.heap.size B m ys) (hn : n ≤ 1000000) (hm : m ≤ 1000000) :
    Calls Try.prog 44 #[.slice A n c, .slice B m d, .bool so] w fun e w' => ∃ A' k c', e = .returned (.slice A' k c') ∧ k ≤ n ∧ Ow w' w.heap.size A' k c' (siftL xs ys so) ∧ Below w.heap.size w w' := by
  go_enter Try.func44, Try.ntmps44
  go_wp2_with fail
  refine (set_c _ _ _ _ _ hA hn).mono ?_
  rintro e w1 ⟨A1, n1, c1, rfl, hn1, hA1, hb1⟩
  have hB1 := hB.call (Nat.le_refl _) hb1
  have bs1 := hb1.size
  clear hA hB
  go_wp2_with fail
  refine (set_c _ _ _ _ _ hB1 hm).mono ?_
  rintro e w2 ⟨B2, m2, d2, rfl, hm2, hB2, hb2⟩
  have hA2 := hA1.call (Nat.le_refl _) hb2
  have b2 := below_call hb1 hb2
  have bs2 := b2.size
  clear hA1 hB1 hb1 hb2
  have hT := ofL_srt ys
  have hS := ofL_srt xs
  have hTm := ofL_mem ys
  obtain ⟨S, hSe⟩ : ∃ S, S = ofL xs := ⟨_, rfl⟩
  obtain ⟨T, hTe⟩ : ∃ T, T = ofL ys := ⟨_, rfl⟩
  rw [← hSe] at hA2 hS
  rw [← hTe] at hB2 hT hTm
  have HSE := Lib.hid hSe
  have HTM := Lib.hid hTm
  have HS := Lib.hid hS; have HT := Lib.hid hT
  have HLA := Lib.hid hA2.len; have HLB := Lib.hid hB2.len
  clear hSe hTe hS hT hTm
  go_wp2
  go_loopw [7, 8, 18] (fun t a i wr => ∃ (k p q c3 : Nat) (G : Option Addr), k ≤ n1 ∧ p ≤ m2 ∧ q ≤ k ∧ i = .int .i64 k ∧ a = .int .i64 p ∧ t = .slice G q c3 ∧ Ow wr w2.heap.size G q c3 ((S.take k).filter fun n => decide (n ∈ ys) == so) ∧ (∀ y ∈ T.take p, ∀ z ∈ S.drop k, y < z) ∧ Below w2.heap.size w2 wr) (fun _ _ i _ => n1 - (intOf i).toNat)
  case atStart => exact ⟨0, 0, 0, 0, none, by omega, by omega, by omega, rfl, rfl, rfl, by simpa using Ow.nil _ _, by simp, Below.refl _ _⟩
  case round =>
    obtain ⟨k, p, q, c3, G, hk, hp, hq, rfl, rfl, rfl, hO, hlow, hbr⟩ := hrel
    have hA3 := hA2.call (Nat.le_refl _) hbr
    have hB3 := hB2.call (Nat.le_refl _) hbr
    have bs3 := hbr.size
    by_cases hlt : k < n1
    · obtain ⟨b1, o1, rfl, _, hc1⟩ := hA3.pos (by omega)
      obtain ⟨x, hx⟩ := getD_some S k (by have := HLA.out; omega)
      have g1 := hc1 k x hx
      have HX := Lib.hid hx
      have HLOW := Lib.hid (low_here hx hlow)
      clear hc1 hx hlow
      have k0 : (0 : Int) ≤ (k : Int) := by omega
      have kn : (k : Int) < (n1 : Int) := by omega
      go_wp2
      go_loop [8] (fun a => ∃ p : Nat, p ≤ m2 ∧ a = .int .i64 p ∧ ∀ y ∈ T.take p, y < x) (fun a => m2 - (intOf a).toNat)
      case atStart => exact ⟨p, hp, rfl, HLOW.out⟩
      case round =>
        obtain ⟨p, hp, rfl, hlow⟩ := hrel
        have HLOW := Lib.hid hlow
        clear hlow
        by_cases hpm : p < m2
        · obtain ⟨bb, oo, rfl, _, hc2⟩ := hB3.pos (by omega)
          obtain ⟨y, hy⟩ := getD_some T p (by have := HLB.out; omega)
          have g2 := hc2 p y hy
          have HY := Lib.hid hy
          clear hc2 hy
          have p0 : (0 : Int) ≤ (p : Int) := by omega
          have pm : (p : Int) < (m2 : Int) := by omega
          by_cases hyx : y < x
          · have t1 : decide (y < x) = true := by simp; omega
            go_wp2
            go_round
            case rel => exact ⟨p + 1, by omega, by go_num, low_snoc HY.out hyx HLOW.out⟩
            case measure => simp [intOf]; omega
          · have t1 : decide (y < x) = false := by simp; omega
            have hst := stand_mem HT.out HLOW.out (fun z hz => by rw [HY.out] at hz; injection hz with hz; omega)
            rw [HTM.out, HY.out] at hst
            by_cases hyx2 : x = y
            · subst hyx2
              have hmem : decide (x ∈ ys) = true := by
                have := hst.2 rfl
                simp [this]
              have HMEM := Lib.hid hmem
              clear hmem
              have HSN := Lib.hid (take_filter_snoc HX.out fun n => decide (n ∈ ys) == so)
              cases so
              · go_wp2
                go_roundw
                case rel =>
                  refine ⟨k + 1, p, q, c3, G, by omega, hp, by omega, by go_num, rfl, rfl, ?_, low_next HS.out HX.out HLOW.out, hbr⟩
                  rw [HSN.out, HMEM.out]; simpa using hO
                case measure => simp [intOf]; omega
              · go_wp2_with (at_builtin; refine app1 rfl (.tmp 51) (.tmp 53) rfl wr w2.heap.size _ _ _ _ _ (by rfl) (by rfl) hO (by omega) (by omega) ?_; intro g4 c4 w4 ho4 hg4 hb4 hat4 hcap4)
                go_roundw
                case rel =>
                  refine ⟨k + 1, p, q + 1, c4, some ⟨g4, 0, none⟩, by omega, hp, by omega, by go_num, rfl, rfl, ?_, low_next HS.out HX.out HLOW.out, hbr.trans hb4⟩
                  rw [HSN.out, HMEM.out]; exact ho4
                case measure => simp [intOf]; omega
            · have t2 : (y == x) = false := by rw [beq_eq_false_iff_ne]; exact fun h => hyx2 h.symm
              have hmem : decide (x ∈ ys) = false := by
                rw [decide_eq_false_iff_not, hst]
                intro h; injection h with h; exact hyx2 h.symm
              have HMEM := Lib.hid hmem
              clear hmem
              have HSN := Lib.hid (take_filter_snoc HX.out fun n => decide (n ∈ ys) == so)
              cases so
              · go_wp2_with (at_builtin; refine app1 rfl (.tmp 51) (.tmp 53) rfl wr w2.heap.size _ _ _ _ _ (by rfl) (by rfl) hO (by omega) (by omega) ?_; intro g4 c4 w4 ho4 hg4 hb4 hat4 hcap4)
                go_roundw
                case rel =>
                  refine ⟨k + 1, p, q + 1, c4, some ⟨g4, 0, none⟩, by omega, hp, by omega, by go_num, rfl, rfl, ?_, low_next HS.out HX.out HLOW.out, hbr.trans hb4⟩
                  rw [HSN.out, HMEM.out]; exact ho4
                case measure => simp [intOf]; omega
              · go_wp2
                go_roundw
                case rel =>
                  refine ⟨k + 1, p, q, c3, G, by omega, hp, by omega, by go_num, rfl, rfl, ?_, low_next HS.out HX.out HLOW.out, hbr⟩
                  rw [HSN.out, HMEM.out]; simpa using hO
                case measure => simp [intOf]; omega
        · have hst := stand_mem (p := p) HT.out HLOW.out (fun z hz => by rw [List.getElem?_eq_none (by rw [HLB.out]; omega)] at hz; cases hz)
          rw [HTM.out, List.getElem?_eq_none (by rw [HLB.out]; omega)] at hst
          have hmem : decide (x ∈ ys) = false := by
            rw [decide_eq_false_iff_not, hst]
            simp
          have HMEM := Lib.hid hmem
          clear hmem
          have HSN := Lib.hid (take_filter_snoc HX.out fun n => decide (n ∈ ys) == so)
          cases so
          · go_wp2_with (at_builtin; refine app1 rfl (.tmp 51) (.tmp 53) rfl wr w2.heap.size _ _ _ _ _ (by rfl) (by rfl) hO (by omega) (by omega) ?_; intro g4 c4 w4 ho4 hg4 hb4 hat4 hcap4)
            go_roundw
            case rel =>
              refine ⟨k + 1, p, q + 1, c4, some ⟨g4, 0, none⟩, by omega, hp, by omega, by go_num, rfl, rfl, ?_, low_next HS.out HX.out HLOW.out, hbr.trans hb4⟩
              rw [HSN.out, HMEM.out]; exact ho4
            case measure => simp [intOf]; omega
          · go_wp2
            go_roundw
            case rel =>
              refine ⟨k + 1, p, q, c3, G, by omega, hp, by omega, by go_num, rfl, rfl, ?_, low_next HS.out HX.out HLOW.out, hbr⟩
              rw [HSN.out, HMEM.out]; simpa using hO
            case measure => simp [intOf]; omega
    · go_wp2
      go_ret
      refine ⟨_, _, _, rfl, by omega, ?_, below_call b2 hbr⟩
      have e : (S.take k).filter (fun n => decide (n ∈ ys) == so) = siftL xs ys so := by
        rw [List.take_of_length_le (by rw [HLA.out]; omega), HSE.out]; rfl
      rw [← e]; exact hO.lower bs2

theorem meet_c (A : Option Addr) (n c : Nat) (xs : List Int) (B : Option Addr) (m d : Nat) (ys : List Int) (w : World) (hA : Rd w w.heap.size A n xs) (hB : Rd w w.heap.size B m ys) (hn : n ≤ 1000000) (hm : m ≤ 1000000) :
    Calls Try.prog 25 #[.slice A n c, .slice B m d] w fun e w' => ∃ A' k c', e = .returned (.slice A' k c') ∧ k ≤ n ∧ Ow w' w.heap.size A' k c' (siftL xs ys true) ∧ Below w.heap.size w w' := by
  go_enter Try.func25, Try.ntmps25
  go_wp2_with fail
  refine (sift_c _ _ _ _ _ _ _ _ _ _ hA hB hn hm).mono ?_
  rintro e w1 ⟨A1, k, c1, rfl, hk, ho, hb⟩
  go_wp2
  go_ret
  exact ⟨_, _, _, rfl, hk, ho, hb⟩

theorem minus_c (A : Option Addr) (n c : Nat) (xs : List Int) (B : Option Addr) (m d : Nat) (ys : List Int) (w : World) (hA : Rd w w.heap.size A n xs) (hB : Rd w w.heap.size B m ys) (hn : n ≤ 1000000) (hm : m ≤ 1000000) :
    Calls Try.prog 26 #[.slice A n c, .slice B m d] w fun e w' => ∃ A' k c', e = .returned (.slice A' k c') ∧ k ≤ n ∧ Ow w' w.heap.size A' k c' (siftL xs ys false) ∧ Below w.heap.size w w' := by
  go_enter Try.func26, Try.ntmps26
  go_wp2_with fail
  refine (sift_c _ _ _ _ _ _ _ _ _ _ hA hB hn hm).mono ?_
  rintro e w1 ⟨A1, k, c1, rfl, hk, ho, hb⟩
  go_wp2
  go_ret
  exact ⟨_, _, _, rfl, hk, ho, hb⟩

theorem sub_c (A : Option Addr) (n c : Nat) (xs : List Int) (B : Option Addr) (m d : Nat) (ys : List Int) (w : World) (hA : Rd w w.heap.size A n xs) (hB : Rd w w.heap.size B m ys) (hn : n ≤ 1000000) (hm : m ≤ 1000000) :
    Calls Try.prog 28 #[.slice A n c, .slice B m d] w fun e w' => e = .returned (.bool (decide (siftL xs ys false = []))) ∧ Below w.heap.size w w' := by
  go_enter Try.func28, Try.ntmps28
  go_wp2_with fail
  refine (sift_c _ _ _ _ _ _ _ _ _ _ hA hB hn hm).mono ?_
  rintro e w1 ⟨A1, k, c1, rfl, hk, ho, hb⟩
  have hl := ho.len
  by_cases h0 : k = 0
  · subst h0
    have HE : siftL xs ys false = [] := List.eq_nil_of_length_eq_zero hl
    have HE2 := Lib.hid HE
    clear HE hl ho
    go_wp2
    go_ret
    exact ⟨ret_bool (by simp [HE2.out]), hb⟩
  · have t : ((k : Int) == 0) = false := by rw [beq_eq_false_iff_ne]; omega
    have HE : siftL xs ys false ≠ [] := by intro e; rw [e] at hl; simp at hl; omega
    have HE2 := Lib.hid HE
    clear HE hl ho
    go_wp2
    go_ret
    exact ⟨ret_bool (by simp [HE2.out]), hb⟩

end Go.Proofs.Ytladdpfngoldcaa
