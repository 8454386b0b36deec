/- Walks: isMark. -/
import Derived.Test.YtkoocipagndclaaRd
namespace Go.Proofs.Ytkoocipagndclaa
open Go.RowKit

theorem isMark_out {F : Fnt} {g : Int} (h : g < 0 ∨ (F.gly.length : Int) ≤ g) : isMark F g = false := by
  unfold isMark
  rcases h with h | h
  · simp [show ¬ (0 ≤ g) by omega]
  · rw [List.getElem?_eq_none (by omega)]; simp
theorem isMark_in {F : Fnt} {k : Nat} {x : Gly} (h : F.gly[k]? = some x) : isMark F (k : Int) = x.mark := by
  unfold isMark; simp [h]

set_option maxRecDepth 100000 in
set_option maxHeartbeats 400000 in
theorem isMark_c (Bw : Nat) (f : FV) (F : Fnt) (g : Int) (w : World) (hf : IsF w (lo w.heap.size) f F) (hw : w.cell? ⟨Bw, 1, none⟩ = some (.slice f.ga f.gn f.gc)) :
    Calls Try.prog 53 #[.pointer (some ⟨Bw, 0, none⟩), .int .i64 g] w fun e w' => e = .returned (.bool (isMark F g)) ∧ w = w' := by
  obtain ⟨hg, _, hd, _⟩ := hf
  have hl := hg.len
  have hd1 := hd.1
  have hd2 := hd.2
  by_cases h0 : g < 0
  · have e := isMark_out (F := F) (.inl h0)
    rw [e]; clear e hl
    have t0 : decide (0 ≤ g) = false := by simp; omega
    go_enter Try.func53, Try.ntmps53
    go_wp2
    go_ret
    exact ⟨rfl, rfl⟩
  · by_cases h1 : (f.gn : Int) ≤ g
    · have e := isMark_out (F := F) (g := g) (.inr (by omega))
      rw [e]; clear e hl
      have t0 : decide (0 ≤ g) = true := by simp; omega
      have t1 : decide (g < (f.gn : Int)) = false := by simp; omega
      go_enter Try.func53, Try.ntmps53
      go_wp2
      go_ret
      exact ⟨rfl, rfl⟩
    · obtain ⟨k, rfl⟩ : ∃ k : Nat, g = k := ⟨g.toNat, by omega⟩
      obtain ⟨b, o, ha, _, hc⟩ := hg.pos (by omega)
      obtain ⟨x, hx⟩ := at_some F.gly k (by omega)
      obtain ⟨cs, ⟨u0, u1, u3, u4, u5, A, n, c, u7, u8, rfl, _⟩, hcc⟩ := hc k x hx
      have c2 := hcc 2 _ rfl
      rw [ha] at hw
      rw [isMark_in hx]
      clear hx hc hcc hl
      have t0 : (0 : Int) ≤ (k : Int) := by omega
      have t1 : (k : Int) < (f.gn : Int) := by omega
      go_enter Try.func53, Try.ntmps53
      go_wp2
      go_ret
      exact ⟨rfl, rfl⟩

theorem idx_none {xs : List Int} {g : Int} (h : ∀ (i : Nat) (x : Int), xs[i]? = some x → x ≠ g) : xs.idxOf? g = none := by
  rw [List.idxOf?_eq_none_iff]
  intro hm
  obtain ⟨i, hi⟩ := List.mem_iff_getElem?.1 hm
  exact h i g hi rfl
theorem idx_some {xs : List Int} {g : Int} {k : Nat} (hk : xs[k]? = some g) (h : ∀ (i : Nat) (x : Int), i < k → xs[i]? = some x → x ≠ g) : xs.idxOf? g = some k := by
  obtain ⟨hl, rfl⟩ := List.getElem?_eq_some_iff.1 hk
  rw [List.idxOf?, List.findIdx?_eq_some_iff_getElem]
  refine ⟨hl, by simp, fun j hj => ?_⟩
  have := h j xs[j] hj (List.getElem?_eq_getElem (by omega))
  simpa using this
/-- What slices.Index tells. -/
def idxI (xs : List Int) (g : Int) : Int := match xs.idxOf? g with | some k => (k : Int) | none => -1

set_option maxHeartbeats 400000 in
theorem index_c (A : Option Addr) (n c : Nat) (xs : List Int) (g : Int) (w : World) (h : Rd w (lo w.heap.size) A n xs) (hn : n ≤ 9223372036854775807) :
    Calls Try.prog 41 #[.slice A n c, .int .i64 g] w fun e w' => e = .returned (.int .i64 (idxI xs g)) ∧ w = w' := by
  have HL := Lib.hid h.len
  go_enter Try.func41, Try.ntmps41
  go_wp2
  go_loop [8] (fun i => ∃ k : Nat, k ≤ n ∧ i = .int .i64 k ∧ ∀ (j : Nat) (x : Int), j < k → xs[j]? = some x → x ≠ g) (fun i => n - (intOf i).toNat)
  case atStart => exact ⟨0, by omega, rfl, fun j x hj => by omega⟩
  case round =>
    obtain ⟨k, hk, rfl, hno⟩ := hrel
    have HNO := Lib.hid hno; clear hno
    by_cases hlt : k < n
    · obtain ⟨b, o, rfl, _, hc⟩ := h.pos (by omega)
      obtain ⟨x, hx⟩ := at_some xs k (by have := HL.out; omega)
      obtain ⟨cs, rfl, hcc⟩ := hc k x hx
      have c0 := hcc 0 _ rfl
      rw [Nat.mul_one, Nat.add_zero] at c0
      have HX := Lib.hid hx; clear hx hc hcc
      have hkz : (0 : Int) ≤ (k : Int) := by omega
      have hkn : (k : Int) < (n : Int) := by omega
      by_cases hxg : g = x
      · subst hxg
        go_wp2
        go_ret
        refine ⟨ret_int ?_, rfl⟩
        unfold idxI
        rw [idx_some HX.out HNO.out]
      · have e : (g == x) = false := by simpa using hxg
        go_wp2
        go_round
        case rel =>
          refine ⟨k + 1, by omega, by go_num, fun j y hj hy => ?_⟩
          by_cases ej : j = k
          · subst ej; rw [HX.out] at hy; injection hy with hy; subst hy; exact fun h => hxg h.symm
          · exact HNO.out j y (by omega) hy
        case measure => simp [intOf]; omega
    · go_wp2
      go_ret
      refine ⟨ret_int ?_, rfl⟩
      unfold idxI
      rw [idx_none fun j x hx => HNO.out j x (by have := (List.getElem?_eq_some_iff.1 hx).1; have := HL.out; omega) hx]

theorem idx_contains (xs : List Int) (g : Int) : decide (0 ≤ idxI xs g) = xs.contains g := by
  unfold idxI
  cases h : xs.idxOf? g with
  | none => rw [List.idxOf?_eq_none_iff] at h; simp [h]
  | some k =>
    have hm : g ∈ xs := by
      refine Classical.byContradiction fun hn => ?_
      rw [List.idxOf?_eq_none_iff.2 hn] at h; cases h
    simp [hm]

theorem contains_c (A : Option Addr) (n c : Nat) (xs : List Int) (g : Int) (w : World) (h : Rd w (lo w.heap.size) A n xs) (hn : n ≤ 9223372036854775807) :
    Calls Try.prog 27 #[.slice A n c, .int .i64 g] w fun e w' => e = .returned (.bool (xs.contains g)) ∧ w = w' := by
  have hi := idx_contains xs g
  have HI := Lib.hid hi; clear hi
  go_enter Try.func27, Try.ntmps27
  go_wp2_with (go_at_call 41; refine (index_c _ _ _ _ _ _ h hn).mono ?_; rintro e w' ⟨rfl, rfl⟩)
  go_ret
  exact ⟨ret_bool HI.out, rfl⟩

end Go.Proofs.Ytkoocipagndclaa
