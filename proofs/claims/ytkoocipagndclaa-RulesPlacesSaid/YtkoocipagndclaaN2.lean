/- Walks: the laws' in, mark. -/
import Derived.Test.YtkoocipagndclaaN0
namespace Go.Proofs.Ytkoocipagndclaa
open Go.RowKit Go.Shelf

set_option maxHeartbeats 400000 in
theorem lin_c (A : Option Addr) (n c : Nat) (xs : List Int) (g : Int) (w : World) (h : Rd w (lo w.heap.size) A n xs) (hn : n ≤ 9223372036854775807) :
    Calls Try.prog 21 #[.slice A n c, .int .i64 g] w fun e w' => e = .returned (.bool (xs.contains g)) ∧ w = w' := by
  have HL := Lib.hid h.len
  go_enter Try.func21, Try.ntmps21
  go_wp2
  go_loop [5] (fun i => ∃ k : Nat, k ≤ n ∧ i = .int .i64 k ∧ ∀ (j : Nat) (x : Int), j < k → xs[j]? = some x → x ≠ g) (fun i => n - (intOf i).toNat)
  case atStart => exact ⟨0, by omega, rfl, fun j x hj => by omega⟩
  case round =>
    obtain ⟨k, hk, rfl, hno⟩ := hrel
    have HNO := Lib.hid hno; clear hno
    by_cases hlt : k < n
    · obtain ⟨b, o, rfl, _, hc⟩ := h.pos (by omega)
      obtain ⟨x, hx⟩ := at_some xs k (by have := HL.out; omega)
      obtain ⟨cs, rfl, hcc⟩ := hc k x hx
      have c0 := hcc 0 _ rfl
      rw [Nat.mul_one, Nat.add_zero] at c0
      have HX := Lib.hid hx; clear hx hc hcc
      have hkz : (0 : Int) ≤ (k : Int) := by omega
      have hkn : (k : Int) < (n : Int) := by omega
      by_cases hxg : x = g
      · subst hxg
        go_wp2
        go_ret
        refine ⟨ret_bool ?_, rfl⟩
        have hm := List.mem_of_getElem? HX.out
        simpa using hm
      · have e : (x == g) = false := by simpa using hxg
        go_wp2
        go_round
        case rel =>
          refine ⟨k + 1, by omega, by go_num, fun j y hj hy => ?_⟩
          by_cases ej : j = k
          · subst ej; rw [HX.out] at hy; injection hy with hy; subst hy; exact hxg
          · exact HNO.out j y (by omega) hy
        case measure => simp [intOf]; omega
    · go_wp2
      go_ret
      refine ⟨ret_bool ?_, rfl⟩
      have hm : ¬ g ∈ xs := fun hm => by
        obtain ⟨j, hj⟩ := List.mem_iff_getElem?.1 hm
        exact HNO.out j g (by have := (List.getElem?_eq_some_iff.1 hj).1; have := HL.out; omega) hj rfl
      simpa using hm

set_option maxRecDepth 100000 in
set_option maxHeartbeats 400000 in
theorem lmark_c (f : FV) (F : Fnt) (g : Int) (w : World) (hf : IsF w (lo w.heap.size) f F) :
    Calls Try.prog 22 #[.agg f.cells, .int .i64 g] w fun e w' => e = .returned (.bool (isMark F g)) ∧ Below w.heap.size w w' := by
  obtain ⟨hg, _, hd, _⟩ := hf
  have hl := hg.len
  have hd1 := hd.1
  have hd2 := hd.2
  unfold FV.cells
  by_cases h0 : g < 0
  · have e := isMark_out (F := F) (.inl h0)
    rw [e]; clear e hl
    have t0 : decide (0 ≤ g) = false := by simp; omega
    go_enter Try.func22, Try.ntmps22
    go_wp2
    go_ret
    exact ⟨rfl, (Below.refl _ _).alloc (Nat.le_refl _) _⟩
  · by_cases h1 : (f.gn : Int) ≤ g
    · have e := isMark_out (F := F) (g := g) (.inr (by omega))
      rw [e]; clear e hl
      have t0 : decide (0 ≤ g) = true := by simp; omega
      have t1 : decide (g < (f.gn : Int)) = false := by simp; omega
      go_enter Try.func22, Try.ntmps22
      go_wp2
      go_ret
      exact ⟨rfl, (Below.refl _ _).alloc (Nat.le_refl _) _⟩
    · obtain ⟨k, rfl⟩ : ∃ k : Nat, g = k := ⟨g.toNat, by omega⟩
      obtain ⟨b, o, ha, _, hc⟩ := hg.pos (by omega)
      obtain ⟨x, hx⟩ := at_some F.gly k (by omega)
      obtain ⟨cs, ⟨u0, u1, u3, u4, u5, A, n, c, u7, u8, rfl, _⟩, hcc⟩ := hc k x hx
      have c2 := hcc 2 _ rfl
      have lt0 := cell_lt c2
      dsimp only at lt0
      rw [isMark_in hx, ha]
      clear hx hc hcc hl
      have t0 : (0 : Int) ≤ (k : Int) := by omega
      have t1 : (k : Int) < (f.gn : Int) := by omega
      go_enter Try.func22, Try.ntmps22
      go_wp2
      go_ret
      exact ⟨rfl, (Below.refl _ _).alloc (Nat.le_refl _) _⟩



end Go.Proofs.Ytkoocipagndclaa
