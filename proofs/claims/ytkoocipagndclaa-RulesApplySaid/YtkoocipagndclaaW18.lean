/- Walks: Clone of items, Apply. -/
import Derived.Test.YtkoocipagndclaaW17
import Derived.Deep.RegionHeld3
import Derived.Deep.DrawnRows
namespace Go.Proofs.Ytkoocipagndclaa
open Go.RowKit Go.Shelf
attribute [local go_sem ↓] Go.wp_at_zero Go.wp_at_succ

theorem own_empty (w : World) (e k : Nat) : Ow e k (w.alloc (.cells #[] e)) w.heap.size (some ⟨w.heap.size, 0, none⟩) 0 0 [] :=
  ⟨by simp, .inr ⟨w.heap.size, 0, #[], rfl, Nat.le_refl _, heap_alloc_new w _, Nat.le_refl _, by unfold maxLen; omega, by simp, by simp⟩⟩
/-- The source of 'append(s, xs...)', items. -/
theorem news_itc {w : World} {S : Nat → Prop} {A : Option Addr} {n : Nat} {xs : List Itm} (h : RdI w S A n xs) : 0 < n → ∃ b o, A = some ⟨b, o, none⟩ ∧ ∀ j u, (itc xs)[j]? = some u → w.cell? ⟨b, o + j, none⟩ = some u := fun hn => by
  obtain ⟨b, o, rfl, _, hc⟩ := h.2 hn
  refine ⟨b, o, rfl, fun j u hu => ?_⟩
  have hl := (List.getElem?_eq_some_iff.1 hu).1
  rw [itc_len] at hl
  obtain ⟨x, hx⟩ := at_some xs (j / 6) (by omega)
  obtain ⟨cs, rfl, hcc⟩ := hc (j / 6) x hx
  obtain ⟨v, hv⟩ := at_some (itmC x) (j % 6) (by simp [itmC]; omega)
  have h1 := hcc (j % 6) v hv
  have h2 := itc_at hx hv
  rw [show j / 6 * 6 + j % 6 = j by omega] at h2
  rw [h2] at hu; injection hu with hu; subst hu
  rw [show o + j / 6 * 6 + j % 6 = o + j by omega] at h1
  exact h1

set_option maxRecDepth 100000 in
set_option maxHeartbeats 400000 in
theorem siClone_c (A : Option Addr) (n c : Nat) (xs : List Itm) (w : World) (hA : RdI w (lo w.heap.size) A n xs) (hn : n ≤ 1000000) :
    Calls Try.prog 33 #[.slice A n c] w fun e w' => ∃ A' c', e = .returned (.slice A' n c') ∧ Ow 51 6 w' w.heap.size A' n c' (itc xs) ∧ Below w.heap.size w w' := by
  have hq := fun (w0 : World) => Lib.run_eql_slice_nil (P := Try.prog) w0 32 51 A n c 0 0 Try.underlying32
  rcases A with _ | ad
  · have hm : n = 0 := by
      rcases Nat.eq_zero_or_pos n with h0 | h0
      · exact h0
      · obtain ⟨_, _, h, _⟩ := hA.2 h0; cases h
    subst hm
    have hx : xs = [] := List.eq_nil_of_length_eq_zero hA.1
    subst hx
    go_enter Try.func33, Try.ntmps33
    go_wp2
    go_ret
    exact ⟨_, _, rfl, Ow.nil _ _ _ _, Below.refl _ _⟩
  · have hR := hA.alloc (.cells #[] 51)
    have hl := hA.len
    have hl2 : (itc xs).length = n * 6 := by rw [itc_len, hl]
    have HL := Lib.hid hl2
    clear hl hl2
    simp only [Option.isNone_some] at hq
    go_enter Try.func33, Try.ntmps33
    go_wp2_with (at_builtin; refine appP elt_item rfl _ _ rfl _ w.heap.size _ _ _ [] _ _ _ (itc xs) (by rfl) (by rfl) (own_empty w _ _) HL.out (news_itc hR) (itc_one xs) (by omega) (by simp) ?_; intro A' c' w' ho hg hb hat)
    go_ret
    have e0 : 0 + n = n := by omega
    rw [e0] at ho
    exact ⟨_, _, by rw [← e0]; rfl, ho, ((Below.refl _ _).alloc (Nat.le_refl _) _).trans hb⟩

end Go.Proofs.Ytkoocipagndclaa
