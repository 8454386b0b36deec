/- Plain laws: rising lists, Of. -/
import Derived.Test.YtgcmedkaadagmaaDoorS6W2
namespace Go.Proofs.YtgcmedkaadagmaaDoor.S6

def Srt (xs : List Int) : Prop := xs.Pairwise (· < ·)

theorem srt_unique : ∀ {xs ys : List Int}, Srt xs → Srt ys → (∀ x, x ∈ xs ↔ x ∈ ys) → xs = ys
  | [], [], _, _, _ => rfl
  | [], y :: ys, _, _, h => absurd ((h y).2 (by simp)) (by simp)
  | x :: xs, [], _, _, h => absurd ((h x).1 (by simp)) (by simp)
  | x :: xs, y :: ys, h1, h2, h => by
    have a1 := (List.pairwise_cons.1 h1).1
    have a2 := (List.pairwise_cons.1 h2).1
    have e : x = y := by
      have hx := (h x).1 (by simp)
      have hy := (h y).2 (by simp)
      rcases List.mem_cons.1 hx with e | e
      · exact e
      · rcases List.mem_cons.1 hy with e2 | e2
        · exact e2.symm
        · have := a2 x e; have := a1 y e2; omega
    subst e
    congr 1
    refine srt_unique (List.pairwise_cons.1 h1).2 (List.pairwise_cons.1 h2).2 fun z => ⟨fun hz => ?_, fun hz => ?_⟩
    · rcases List.mem_cons.1 ((h z).1 (List.mem_cons_of_mem _ hz)) with e | e
      · have := a1 z hz; omega
      · exact e
    · rcases List.mem_cons.1 ((h z).2 (List.mem_cons_of_mem _ hz)) with e | e
      · have := a2 z hz; omega
      · exact e

theorem sorted_mem (xs : List Int) (x : Int) : x ∈ sorted xs ↔ x ∈ xs := by simp [sorted]
theorem sorted_le (xs : List Int) : (sorted xs).Pairwise (· ≤ ·) := by
  have := List.pairwise_mergeSort (le := fun x y : Int => decide (x ≤ y)) (by intro a b c; simp; omega) (by intro a b; simp; omega) xs
  refine this.imp ?_
  intro a b h; simpa using h

theorem compact_upto {zs : List Int} (h : zs.Pairwise (· ≤ ·)) : ∀ m, m ≤ zs.length → (∀ x, x ∈ Lib.compactUpTo zs.toArray m ↔ x ∈ zs.take m) ∧ Srt (Lib.compactUpTo zs.toArray m)
  | 0, _ => ⟨by simp [Lib.compactUpTo], by simp [Lib.compactUpTo, Srt]⟩
  | m + 1, hm => by
    obtain ⟨ih1, ih2⟩ := compact_upto h m (by omega)
    have hz : zs.toArray[m]! = zs[m] := by simp [getElem!_pos, show m < zs.length by omega]
    have ht : zs.take (m + 1) = zs.take m ++ [zs[m]] := by rw [List.take_add_one, List.getElem?_eq_getElem (by omega)]; rfl
    rw [Lib.compactUpTo_succ, ht]
    clear ht
    by_cases hk : Lib.keeps zs.toArray m = true
    · rw [if_pos hk, hz]
      refine ⟨fun x => by rw [List.mem_append, List.mem_append, ih1], ?_⟩
      unfold Srt
      rw [List.pairwise_append]
      refine ⟨ih2, by simp, fun a ha b hb => ?_⟩
      simp at hb; subst hb
      rw [ih1] at ha
      obtain ⟨i, hi, rfl⟩ := List.mem_iff_getElem.1 ha
      rw [List.getElem_take]
      simp at hi
      have hpw := List.pairwise_iff_getElem.1 h
      have hne : zs[m] ≠ zs[m - 1] := by
        unfold Lib.keeps at hk
        have hk2 := of_decide_eq_true hk
        rcases hk2 with e | e
        · omega
        · rw [hz] at e
          have : zs.toArray[m - 1]! = zs[m - 1] := by simp [getElem!_pos, show m - 1 < zs.length by omega]
          rw [this] at e; exact e
      have h1 : zs[i] ≤ zs[m - 1] := by
        by_cases e : i = m - 1
        · subst e; exact Int.le_refl _
        · exact hpw i (m - 1) (by omega) (by omega) (by omega)
      have h2 : zs[m - 1] ≤ zs[m] := hpw (m - 1) m (by omega) (by omega) (by omega)
      omega
    · rw [if_neg hk, List.append_nil]
      refine ⟨fun x => ?_, ih2⟩
      rw [ih1, List.mem_append, List.mem_singleton]
      refine ⟨.inl, fun hx => hx.elim id fun e => ?_⟩
      have h0 : m ≠ 0 := by rintro rfl; exact hk (Lib.keeps_lt_one _ 0 (by omega))
      have e2 : zs[m] = zs[m - 1] := by
        refine Decidable.byContradiction fun hne => hk (Lib.keeps_pos ?_)
        rw [hz]
        have : zs.toArray[m - 1]! = zs[m - 1] := by simp [getElem!_pos, show m - 1 < zs.length by omega]
        rw [this]; exact hne
      rw [e, e2]
      exact List.mem_iff_getElem.2 ⟨m - 1, by simp; omega, by rw [List.getElem_take]⟩

theorem ofL_mem (xs : List Int) (x : Int) : x ∈ ofL xs ↔ x ∈ xs := by
  have := (compact_upto (sorted_le xs) (sorted xs).length (Nat.le_refl _)).1 x
  rw [List.take_length, sorted_mem] at this
  exact this
theorem ofL_srt (xs : List Int) : Srt (ofL xs) := (compact_upto (sorted_le xs) (sorted xs).length (Nat.le_refl _)).2
theorem ofL_of_srt {xs : List Int} (h : Srt xs) : ofL xs = xs := srt_unique (ofL_srt xs) h (ofL_mem xs)

theorem srt_at {xs : List Int} (h : Srt xs) {i j : Nat} {x y : Int} (hij : i < j) (hx : xs[i]? = some x) (hy : xs[j]? = some y) : x < y := by
  obtain ⟨h1, rfl⟩ := List.getElem?_eq_some_iff.1 hx
  obtain ⟨h2, rfl⟩ := List.getElem?_eq_some_iff.1 hy
  exact List.pairwise_iff_getElem.1 h i j h1 h2 hij
theorem srt_snoc {xs : List Int} {x : Int} (h : Srt xs) (hx : ∀ y ∈ xs, y < x) : Srt (xs ++ [x]) := by
  unfold Srt; rw [List.pairwise_append]; exact ⟨h, by simp, fun a ha b hb => by simp at hb; subst hb; exact hx a ha⟩
instance (xs : List Int) : Decidable (Srt xs) := inferInstanceAs (Decidable (xs.Pairwise (· < ·)))

end Go.Proofs.YtgcmedkaadagmaaDoor.S6
