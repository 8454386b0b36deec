/- Walks: the matcher's own search, IsSorted, and the library's Clone and Sort of ints. -/
import Derived.Test.YtkoocipagndclaaW8
import Derived.Test.YtkoocipagndclaaShelf
import Derived.Sort.OwnSortedInts
import Derived.Lib.RowBridge
namespace Go.Proofs.Ytkoocipagndclaa
open Go.RowKit Go.Shelf

theorem Rd.getD {w : World} {S : Nat → Prop} {b o n : Nat} {xs : List Int} (h : Rd w S (some ⟨b, o, none⟩) n xs) : ∀ j, j < xs.length → w.cell? ⟨b, o + j, none⟩ = some (.int .i64 (xs.getD j 0)) := by
  intro j hj
  obtain ⟨b', o', e, _, hc⟩ := h.2 (by have := h.1; omega)
  injection e with e; injection e with e1 e2; subst e1; subst e2
  obtain ⟨cs, rfl, hcc⟩ := hc j xs[j] (List.getElem?_eq_getElem hj)
  have := hcc 0 _ rfl
  rw [Nat.mul_one, Nat.add_zero] at this
  rw [this]; simp [hj]

/-- A set that rises. -/
def SrtS (xs : List Int) : Prop := xs.Pairwise (· ≤ ·) ∧ xs.length < 4611686018427387904
theorem bin_c (A : Option Addr) (n c : Nat) (xs : List Int) (g : Int) (w : World) (h : Rd w (lo w.heap.size) A n xs) (hs : SrtS xs) :
    Calls Try.prog 59 #[.slice A n c, .int .i64 g] w fun e w' => ∃ v, e = .returned (.tuple #[v, .bool (xs.contains g)]) ∧ ∃ d, w' = w.drewN d := by
  rcases Nat.eq_zero_or_pos n with h0 | h0
  · subst h0
    have hx : xs = [] := List.eq_nil_of_length_eq_zero h.1
    subst hx
    refine (Try.slices_BinarySearch_int_empty A c g w).mono ?_
    rintro e w' ⟨rfl, rfl⟩
    exact ⟨_, rfl, 0, rfl⟩
  · obtain ⟨b, o, rfl, _, _⟩ := h.pos h0
    have hl := h.len
    have e : xs.take n = xs := List.take_of_length_le (by omega)
    refine (Try.slices_BinarySearch_int b o n c xs g w (by omega) (by have := hs.2; omega) h.getD (by rw [e]; exact hs.1)).mono ?_
    rw [e]
    rintro e w' ⟨rfl, d, rfl⟩
    exact ⟨_, rfl, d, rfl⟩

theorem has_bin : HasOK 58 SrtS := by
  refine ⟨fun _ _ => by kernel_rfl, fun A n c xs g w h _ hs => ?_⟩
  have HB := Lib.hid (bin_c A n c xs g w h hs)
  go_enter Try.func58, Try.ntmps58
  go_wp2_with (go_at_call 59; refine HB.out.mono ?_; rintro e w' ⟨v, rfl, d, rfl⟩)
  go_ret
  exact ⟨ret_bool (by simp), _, rfl⟩

def sortedI (xs : List Int) : List Int := xs.mergeSort fun x y => decide (x ≤ y)

theorem clone_c (A : Option Addr) (n c : Nat) (xs : List Int) (w : World) (hA : Rd w (lo w.heap.size) A n xs) (hn : n ≤ 17000000000000) :
    Calls Try.prog 70 #[.slice A n c] w fun e w' => ∃ A' c', e = .returned (.slice A' n c') ∧ Ow 3 1 w' w.heap.size A' n c' (ic xs) ∧ Below w.heap.size w w' := by
  have fin : ∀ (v : Value) (w' : World), w'.ownsRow w.heap.size 3 1 v n (ic xs) → ∃ A' c', v = .slice A' n c' ∧ Ow 3 1 w' w.heap.size A' n c' (ic xs) := by
    intro v w' ho
    have hv : ∃ A' c', v = .slice A' n c' := by
      rcases ho.2 with ⟨rfl, rfl⟩ | ⟨g, cap, cur, rfl, _⟩
      · exact ⟨_, _, rfl⟩
      · exact ⟨_, _, rfl⟩
    obtain ⟨A', c', rfl⟩ := hv
    exact ⟨A', c', rfl, ho⟩
  rcases A with _ | ad
  · have hm : n = 0 := by
      rcases Nat.eq_zero_or_pos n with h0 | h0
      · exact h0
      · obtain ⟨_, _, h, _⟩ := hA.2 h0; cases h
    subst hm
    have hx : xs = [] := List.eq_nil_of_length_eq_zero hA.1
    subst hx
    refine (Try.slices_Clone_int_nil 0 c w).mono ?_
    rintro e w' ⟨rfl, rfl⟩
    exact ⟨none, 0, rfl, Ow.nil _ _ _ _, Below.refl _ _⟩
  · rcases Nat.eq_zero_or_pos n with h0 | h0
    · subst h0
      have hx : xs = [] := List.eq_nil_of_length_eq_zero hA.1
      subst hx
      refine (Try.slices_Clone_int_zero ad c w).mono ?_
      rintro e w' ⟨v', rfl, ho, _, hb⟩
      obtain ⟨A', c', rfl, h2⟩ := fin v' w' ho
      exact ⟨A', c', rfl, h2, hb⟩
    · obtain ⟨b, o, e, _, hc⟩ := hA.pos h0
      have e := Option.some.inj e; subst e
      refine (Try.slices_Clone_int b o n c xs w (by rw [hA.len]; omega) (by omega) hA.getD).mono ?_
      rintro e w' ⟨v', rfl, ho, _, hb⟩
      rw [List.take_of_length_le (by rw [hA.len]; omega)] at ho
      obtain ⟨A', c', rfl, h2⟩ := fin v' w' ho
      exact ⟨A', c', rfl, h2, hb⟩

theorem sort_c (A : Option Addr) (n c base : Nat) (xs : List Int) (w : World) (hA : Ow 3 1 w base A n c (ic xs)) (hb : base ≤ w.heap.size) (hn : n ≤ 17000000000000) :
    Calls Try.prog 71 #[.slice A n c] w fun e w' => e = .returned (.tuple #[]) ∧ Ow 3 1 w' base A n c (ic (sortedI xs)) ∧ Below base w w' := by
  have hlen := hA.len
  rw [ic_len, Nat.mul_one, Nat.mul_one] at hlen
  rcases hA.2 with ⟨h1, h2⟩ | ⟨g, cap, cur, h1, h2, h3, h4, h5, h6, h7⟩
  · obtain ⟨h1, hn0, hc0⟩ := Value.slice.inj h1
    subst h1; subst hn0; subst hc0
    have hx : xs = [] := List.eq_nil_of_length_eq_zero hlen
    subst hx
    refine (Try.slices_Sort_int_none none 0 w).mono ?_
    rintro e w' ⟨rfl, rfl⟩
    exact ⟨rfl, by rw [show sortedI [] = [] by simp [sortedI]]; exact Ow.nil _ _ _ _, Below.refl _ _⟩
  · obtain ⟨h1, hn0, hc0⟩ := Value.slice.inj h1
    subst h1; subst hc0
    subst hlen
    have ht : cur.toList.take xs.length = xs.map (Value.int .i64) := by have h8 : List.take (xs.length * 1) cur.toList = List.map (Value.int .i64) xs := h7; rwa [Nat.mul_one] at h8
    have hg : g < w.heap.size := (Array.getElem?_eq_some_iff.1 h3).1
    refine (Try.slices_Sort_int g 0 c xs w (holds_of_blockI h3 ht) hg (by omega)).mono ?_
    rintro e w' ⟨rfl, m, os, rfl⟩
    refine ⟨rfl, ownsRow_sortedI (by simp) h2 h3 h4 h5 h6, ?_⟩
    exact (Below.refl _ _).grown (grownBy_sortedI _) hb (fun k hk => by injection hk with hk; omega)

/-- Does a list rise? -/
def riseB (xs : List Int) : Bool := decide (xs.Pairwise (· ≤ ·))
theorem pair_adj (xs : List Int) (h : ∀ (i : Nat) (x y : Int), xs[i]? = some x → xs[i + 1]? = some y → x ≤ y) : xs.Pairwise (· ≤ ·) := by
  induction xs with
  | nil => exact List.Pairwise.nil
  | cons a t ih =>
    have ht := ih fun i x y hx hy => h (i + 1) x y (by simpa using hx) (by simpa using hy)
    refine List.Pairwise.cons ?_ ht
    cases t with
    | nil => intro b hb; cases hb
    | cons b t =>
      have hab : a ≤ b := h 0 a b rfl rfl
      intro z hz
      rcases List.mem_cons.1 hz with rfl | hz
      · exact hab
      · have := List.rel_of_pairwise_cons ht hz; omega
theorem pair_lt {xs : List Int} (h : xs.Pairwise (· ≤ ·)) {i j : Nat} {x y : Int} (hij : i < j) (hx : xs[i]? = some x) (hy : xs[j]? = some y) : x ≤ y := by
  obtain ⟨h1, rfl⟩ := List.getElem?_eq_some_iff.1 hx
  obtain ⟨h2, rfl⟩ := List.getElem?_eq_some_iff.1 hy
  exact List.pairwise_iff_getElem.1 h i j h1 h2 hij

set_option maxHeartbeats 800000 in
theorem isSorted_c (A : Option Addr) (n c : Nat) (xs : List Int) (w : World) (h : Rd w (lo w.heap.size) A n xs) (hn : n ≤ 9223372036854775807) :
    Calls Try.prog 69 #[.slice A n c] w fun e w' => e = .returned (.bool (riseB xs)) ∧ ∃ d, w' = w.drewN d := by
  have HL := Lib.hid h.len
  go_enter Try.func69, Try.ntmps69
  go_wp2
  go_loopw [3] (fun i wr => ∃ k d : Nat, k ≤ n ∧ i = .int .i64 ((k : Int) - 1) ∧ (∀ (j : Nat) (x y : Int), k ≤ j + 1 → xs[j]? = some x → xs[j + 1]? = some y → x ≤ y) ∧ wr = w.drewN d) (fun i _ => (intOf i + 1).toNat)
  case atStart => exact ⟨n, 0, Nat.le_refl _, rfl, fun j x y hj hx hy => by have := (List.getElem?_eq_some_iff.1 hy).1; have := HL.out; omega, rfl⟩
  case round =>
    obtain ⟨k, d, hk, rfl, hup, rfl⟩ := hrel
    have HU := Lib.hid hup; clear hup
    by_cases hlt : 1 < k
    · obtain ⟨k, rfl⟩ : ∃ j, k = j + 1 + 1 := ⟨k - 2, by omega⟩
      rw [show ((k + 1 + 1 : Nat) : Int) - 1 = (k : Int) + 1 by omega]
      obtain ⟨b, o, rfl, _, hc⟩ := h.pos (by omega)
      have HG := h.getD
      obtain ⟨x, hx⟩ := at_some xs k (by have := HL.out; omega)
      obtain ⟨y, hy⟩ := at_some xs (k + 1) (by have := HL.out; omega)
      have g1 := HG k (by have := HL.out; omega)
      have g2 := HG (k + 1) (by have := HL.out; omega)
      rw [show xs.getD k 0 = x by simp [hx]] at g1
      rw [show xs.getD (k + 1) 0 = y by simp [hy]] at g2
      have HX := Lib.hid hx; have HY := Lib.hid hy
      clear hx hy hc HG
      have HC := Lib.hid fun (d : Nat) => Try.cmp_Less_int2 y x (w.drewN d)
      have kz : (0 : Int) ≤ (k : Int) := by omega
      have kn : (k : Int) + 1 < (n : Int) := by omega
      have kn' : (k : Int) < (n : Int) := by omega
      by_cases hxy : y < x
      · rw [decide_eq_true hxy] at HC
        go_wp2
        go_quiet ((go_at_call 64; first | exact Calls.quiet_of_same (HC.out _) | exact quiet_add_left ((HC.out _).mono fun _ _ ⟨he, hw⟩ => ⟨he, hw.symm⟩)))
        go_wp2
        go_ret
        refine ⟨ret_bool ?_, drN _ _ _⟩
        have : ¬ xs.Pairwise (· ≤ ·) := fun hp => by have := pair_lt hp (Nat.lt_succ_self k) HX.out HY.out; omega
        simp [riseB, this]
      · rw [decide_eq_false hxy] at HC
        go_wp2
        go_quiet ((go_at_call 64; first | exact Calls.quiet_of_same (HC.out _) | exact quiet_add_left ((HC.out _).mono fun _ _ ⟨he, hw⟩ => ⟨he, hw.symm⟩)))
        go_wp2
        go_roundw
        case rel =>
          refine ⟨k + 1, _, by omega, by go_num, fun j u v hj hu hv => ?_, rfl⟩
          by_cases ej : j = k
          · subst ej; rw [HX.out] at hu; rw [HY.out] at hv; injection hu with hu; injection hv with hv; omega
          · exact HU.out j u v (by omega) hu hv
        case measure => simp [intOf]; omega
    · have e1 : decide (0 < (k : Int) - 1) = false := by simp; omega
      have e2 : decide ((1 : Int) < (k : Int)) = false := by simp; omega
      have e3 : decide (1 < k) = false := by simp; omega
      go_wp2
      go_ret
      refine ⟨ret_bool ?_, _, rfl⟩
      have : xs.Pairwise (· ≤ ·) := pair_adj xs fun i x y hx hy => HU.out i x y (by omega) hx hy
      simp [riseB, this]

end Go.Proofs.Ytkoocipagndclaa
