/- Plain: a rune with vowels, a rune with marks. -/
import Derived.Test.YtdacfcfgikllpaaLawA
namespace Go.Proofs.Ytdacfcfgikllpaa

theorem order_unique {xs : List Int} {l : List Nat} (hp : l.Pairwise (fun x y => aheadB xs x y = true)) (hm : ∀ x, x ∈ l ↔ x < xs.length) : orderL xs = l :=
  sorted_unique (r := fun x y => aheadB xs x y = true) (fun a b h k => by rw [aheadB_asymm xs a b h] at k; cases k) _ _ (order_pw xs) hp (fun x => by rw [order_mem, hm])

-- vowels
theorem kd_cons_zero (r : Int) (vs : List Int) : kd (r :: vs) 0 = kind r := rfl
theorem kd_tail {r : Int} {vs : List Int} {k : Int} (h : ∀ v ∈ vs, kind v = k) {i : Nat} (h1 : 0 < i) (h2 : i < (r :: vs).length) : kd (r :: vs) i = k := by
  obtain ⟨j, rfl⟩ : ∃ j, i = j + 1 := ⟨i - 1, by omega⟩
  unfold kd
  simp at h2
  have : (r :: vs).getD (j + 1) 0 = vs[j] := by simp [h2]
  rw [this]
  exact h _ (List.getElem_mem h2)

section
variable {r : Int} {vs : List Int} (h5 : ∀ v ∈ vs, kind v = 5)
include h5
theorem vow_grp {i : Nat} (hi : i < (r :: vs).length) : grp (r :: vs) i = i := by
  by_cases e : i = 0
  · subst e; rfl
  · have := kd_tail (r := r) h5 (i := i) (by omega) hi
    exact grp_of (.inr (by rw [this]; decide)) (b := i + 1) (fun j _ _ => by omega) (Nat.le_refl _) (by omega)
theorem vow_root {i : Nat} (hi : i < (r :: vs).length) : root (r :: vs) i = 0 := by
  induction i with
  | zero => exact root_self (.inr rfl)
  | succ i ih =>
    have hk := kd_tail (r := r) h5 (i := i + 1) (by omega) hi
    rw [root_back hk (by omega) (show grp (r :: vs) (i + 1 - 1) = i from vow_grp h5 (by omega))]
    exact ih (by omega)
theorem vow_clu {i : Nat} (hi : i < (r :: vs).length) : clu (r :: vs) i = if kind r = 4 then 0 else i := by
  rw [clu_of (vow_grp h5 hi), vow_root h5 hi, kd_cons_zero]
theorem vow_order4 (h4 : kind r = 4) : orderL (r :: vs) = List.range' 1 vs.length ++ [0] := by
  refine order_unique ?_ (fun x => by simp [List.mem_range'_1]; omega)
  have hc : ∀ i, i < (r :: vs).length → clu (r :: vs) i = 0 := fun i hi => by rw [vow_clu h5 hi, if_pos h4]
  rw [List.pairwise_append]
  refine ⟨List.Pairwise.imp_of_mem ?_ (List.pairwise_lt_range' (step := 1) (by omega)), List.pairwise_singleton _ _, ?_⟩
  · intro a b ha hb hab
    rw [List.mem_range'_1] at ha hb
    have a1 : a < (r :: vs).length := by simp; omega
    have b1 : b < (r :: vs).length := by simp; omega
    exact ahead_grp (hc a a1) (hc b b1) (by rw [vow_grp h5 a1]; omega) (.inr (by rw [vow_grp h5 a1, vow_grp h5 b1]; exact hab))
  · intro a ha b hb
    rw [List.mem_range'_1] at ha
    simp at hb; subst hb
    have a1 : a < (r :: vs).length := by simp; omega
    exact ahead_grp (hc a a1) (hc 0 (by simp)) (by rw [vow_grp h5 a1]; omega) (.inl rfl)
theorem vow_order (h4 : kind r ≠ 4) : orderL (r :: vs) = List.range (vs.length + 1) := by
  refine order_unique ?_ (fun x => by simp)
  refine List.Pairwise.imp_of_mem ?_ List.pairwise_lt_range
  intro a b ha hb hab
  rw [List.mem_range] at ha hb
  have a1 : a < (r :: vs).length := by simp; omega
  have b1 : b < (r :: vs).length := by simp; omega
  exact ahead_clu (by rw [vow_clu h5 a1, vow_clu h5 b1, if_neg h4, if_neg h4]; exact hab)
theorem vow_clusters4 (h4 : kind r = 4) : clustersL (r :: vs) = [0] := by
  rw [clusters_eq]
  unfold rclusters
  have e : List.range (r :: vs).length = 0 :: List.range' 1 vs.length := by
    rw [List.length_cons, List.range_eq_range', List.range'_succ]
  rw [e, List.filter_cons, if_pos (by simp [vow_clu h5 (show 0 < (r :: vs).length by simp), h4])]
  congr 1
  rw [List.filter_eq_nil_iff]
  intro i hi
  rw [List.mem_range'_1] at hi
  have i1 : i < (r :: vs).length := by simp; omega
  simp [vow_clu h5 i1, h4]; omega
theorem vow_clusters (h4 : kind r ≠ 4) : clustersL (r :: vs) = List.range (vs.length + 1) := by
  rw [clusters_eq]
  unfold rclusters
  rw [List.length_cons, List.filter_eq_self]
  intro i hi
  rw [List.mem_range] at hi
  simp [vow_clu h5 (show i < (r :: vs).length by simp; omega), h4]
end

-- marks
section
variable {r : Int} {ms : List Int} (hm : ∀ v ∈ ms, kind v = 3)
include hm
theorem mk_grp {i : Nat} (hi : i < (r :: ms).length) : grp (r :: ms) i = 0 :=
  grp_of (.inl rfl) (b := (r :: ms).length) (fun j h1 h2 => kd_tail hm h1 h2) (by omega) hi
theorem mk_clu {i : Nat} (hi : i < (r :: ms).length) : clu (r :: ms) i = 0 := by
  rw [clu_of (mk_grp hm hi), root_self (.inr rfl)]; split <;> rfl
theorem mk_clusters : clustersL (r :: ms) = [0] := by
  rw [clusters_eq]
  unfold rclusters
  have e : List.range (r :: ms).length = 0 :: List.range' 1 ms.length := by
    rw [List.length_cons, List.range_eq_range', List.range'_succ]
  rw [e, List.filter_cons, if_pos (by simp [mk_clu hm (show 0 < (r :: ms).length by simp)])]
  congr 1
  rw [List.filter_eq_nil_iff]
  intro i hi
  rw [List.mem_range'_1] at hi
  have i1 : i < (r :: ms).length := by simp; omega
  simp [mk_clu hm i1]; omega
theorem mk_first (h3 : kind r ≠ 3) : (orderL (r :: ms))[0]? = some 0 := by
  have hl := order_length (r :: ms)
  have hpos : 0 < (orderL (r :: ms)).length := by rw [hl]; simp
  obtain ⟨y, hy⟩ : ∃ y, (orderL (r :: ms))[0]? = some y := ⟨_, List.getElem?_eq_getElem hpos⟩
  rw [hy]
  by_cases e : y = 0
  · rw [e]
  · exfalso
    have hyl : y < (r :: ms).length := (order_mem _ y).1 (List.mem_of_getElem? hy)
    obtain ⟨t, ht⟩ := List.mem_iff_getElem?.1 ((order_mem (r :: ms) 0).2 (by simp))
    have hne : 0 < t := by
      rcases Nat.eq_zero_or_pos t with h0 | h0
      · subst h0; rw [hy] at ht; injection ht with ht; exact absurd ht e
      · exact h0
    have hp := order_pw (r :: ms)
    rw [List.pairwise_iff_getElem] at hp
    have htl := (List.getElem?_eq_some_iff.1 ht).1
    have h1 := hp 0 t hpos htl hne
    rw [(List.getElem?_eq_some_iff.1 hy).2, (List.getElem?_eq_some_iff.1 ht).2] at h1
    have h2 : aheadB (r :: ms) 0 y = true := by
      have ky := kd_tail (r := r) hm (i := y) (by omega) hyl
      unfold kd at ky
      unfold aheadB
      rw [mk_clu hm (show 0 < (r :: ms).length by simp), mk_clu hm hyl, mk_grp hm (show 0 < (r :: ms).length by simp), mk_grp hm hyl, ky, if_neg (by simp), if_neg (by simp)]
      have e1 : (kind ((r :: ms).getD 0 0) == 3) = false := by rw [beq_eq_false_iff_ne]; exact h3
      rw [e1]; rfl
    rw [aheadB_asymm _ _ _ h2] at h1; cases h1
/-- Two marks, one shown right ahead of the other. -/
theorem mk_next (h3 : kind r ≠ 3) {i x y : Nat} (hi : 0 < i) (hx : (orderL (r :: ms))[i]? = some x) (hy : (orderL (r :: ms))[i + 1]? = some y) :
    0 < x ∧ x < (r :: ms).length ∧ 0 < y ∧ y < (r :: ms).length ∧ (cls ((r :: ms).getD x 0) < cls ((r :: ms).getD y 0) ∨ (cls ((r :: ms).getD x 0) = cls ((r :: ms).getD y 0) ∧ x < y)) := by
  have h0 := mk_first hm h3
  have hxl : x < (r :: ms).length := (order_mem _ x).1 (List.mem_of_getElem? hx)
  have hyl : y < (r :: ms).length := (order_mem _ y).1 (List.mem_of_getElem? hy)
  have hnd := order_nodup (r :: ms)
  unfold List.Nodup at hnd
  rw [List.pairwise_iff_getElem] at hnd
  have hp := order_pw (r :: ms)
  rw [List.pairwise_iff_getElem] at hp
  have l0 := (List.getElem?_eq_some_iff.1 h0).1
  have lx := (List.getElem?_eq_some_iff.1 hx).1
  have ly := (List.getElem?_eq_some_iff.1 hy).1
  have n1 := hnd 0 i l0 lx hi
  have n2 := hnd 0 (i + 1) l0 ly (by omega)
  have a1 := hp i (i + 1) lx ly (by omega)
  rw [(List.getElem?_eq_some_iff.1 h0).2, (List.getElem?_eq_some_iff.1 hx).2] at n1
  rw [(List.getElem?_eq_some_iff.1 h0).2, (List.getElem?_eq_some_iff.1 hy).2] at n2
  rw [(List.getElem?_eq_some_iff.1 hx).2, (List.getElem?_eq_some_iff.1 hy).2] at a1
  refine ⟨by omega, hxl, by omega, hyl, ?_⟩
  have kx := kd_tail (r := r) hm (i := x) (by omega) hxl
  have ky := kd_tail (r := r) hm (i := y) (by omega) hyl
  unfold kd at kx ky
  unfold aheadB at a1
  rw [mk_clu hm hxl, mk_clu hm hyl, mk_grp hm hxl, mk_grp hm hyl, kx, ky, if_neg (by simp), if_neg (by simp), if_neg (by simp)] at a1
  by_cases e : cls ((r :: ms).getD x 0) = cls ((r :: ms).getD y 0)
  · rw [if_neg (fun h => h e)] at a1
    exact .inr ⟨e, by simpa using a1⟩
  · rw [if_pos e] at a1
    exact .inl (of_decide_eq_true a1)
end

end Go.Proofs.Ytdacfcfgikllpaa
