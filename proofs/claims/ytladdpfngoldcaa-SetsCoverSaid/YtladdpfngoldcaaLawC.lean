/- Plain: what unions, meets and differences of sets come to. -/
import Derived.Test.YtladdpfngoldcaaW4
namespace Go.Proofs.Ytladdpfngoldcaa

theorem mem_sift {X Y : List Int} {so : Bool} {x : Int} : x ∈ siftL X Y so ↔ x ∈ X ∧ decide (x ∈ Y) = so := by
  unfold siftL; rw [List.mem_filter, ofL_mem]; simp
theorem mem_meet {X Y : List Int} {x : Int} : x ∈ siftL X Y true ↔ x ∈ X ∧ x ∈ Y := by rw [mem_sift]; simp
theorem mem_minus {X Y : List Int} {x : Int} : x ∈ siftL X Y false ↔ x ∈ X ∧ x ∉ Y := by rw [mem_sift]; simp
theorem mem_union {X Y : List Int} {x : Int} : x ∈ ofL (X ++ Y) ↔ x ∈ X ∨ x ∈ Y := by rw [ofL_mem]; simp
theorem srt_eq {S T : List Int} (hS : Srt S) (hT : Srt T) : S = T ↔ ∀ x, x ∈ S ↔ x ∈ T := ⟨fun h x => by rw [h], fun h => srt_unique hS hT h⟩
theorem sift_nil {X Y : List Int} : siftL X Y false = [] ↔ ∀ x ∈ X, x ∈ Y := by
  rw [List.eq_nil_iff_forall_not_mem]
  constructor
  · intro h x hx
    rcases Decidable.em (x ∈ Y) with hy | hy
    · exact hy
    · exact absurd (mem_minus.2 ⟨hx, hy⟩) (h x)
  · intro h x hx
    have := mem_minus.1 hx
    exact this.2 (h x this.1)
section
variable (X Y Z : List Int)
theorem sub_union : decide (ofL (X ++ Y) = ofL Y) = decide (siftL X Y false = []) := by
  rw [decide_eq_decide, sift_nil, srt_eq (ofL_srt _) (ofL_srt _)]
  constructor
  · intro h x hx; exact (ofL_mem Y x).1 ((h x).1 (mem_union.2 (.inl hx)))
  · intro h x
    rw [mem_union, ofL_mem]
    exact ⟨fun h' => h'.elim (h x) id, .inr⟩
theorem sub_meet : decide (siftL X Y true = ofL X) = decide (siftL X Y false = []) := by
  rw [decide_eq_decide, sift_nil, srt_eq (siftL_srt _ _ _) (ofL_srt _)]
  constructor
  · intro h x hx; exact (mem_meet.1 ((h x).2 ((ofL_mem X x).2 hx))).2
  · intro h x
    rw [mem_meet, ofL_mem]
    exact ⟨fun h' => h'.1, fun h' => ⟨h', h x h'⟩⟩
theorem sub_alike : decide (ofL X = ofL Y) = (decide (siftL X Y false = []) && decide (siftL Y X false = [])) := by
  rw [Bool.eq_iff_iff, Bool.and_eq_true, decide_eq_true_eq, decide_eq_true_eq, decide_eq_true_eq, sift_nil, sift_nil, srt_eq (ofL_srt _) (ofL_srt _)]
  constructor
  · intro h
    exact ⟨fun x hx => (ofL_mem Y x).1 ((h x).1 ((ofL_mem X x).2 hx)), fun x hx => (ofL_mem X x).1 ((h x).2 ((ofL_mem Y x).2 hx))⟩
  · rintro ⟨h1, h2⟩ x
    rw [ofL_mem, ofL_mem]
    exact ⟨h1 x, h2 x⟩
theorem sub_none : decide (siftL [] X false = []) = true := decide_eq_true (sift_nil.2 fun x h => by cases h)
theorem sub_self : decide (siftL X X false = []) = true := decide_eq_true (sift_nil.2 fun _ h => h)
theorem sub_of_meet : decide (siftL (siftL X Y true) X false = []) = true := decide_eq_true (sift_nil.2 fun _ h => (mem_meet.1 h).1)
theorem sub_in_union : decide (siftL X (ofL (Y ++ X)) false = []) = true := decide_eq_true (sift_nil.2 fun _ h => mem_union.2 (.inr h))
theorem parts_apart : siftL (siftL X Y true) (siftL X Y false) true = [] := by
  rw [List.eq_nil_iff_forall_not_mem]
  intro x hx
  rw [mem_meet, mem_meet, mem_minus] at hx
  exact hx.2.2 hx.1.2
theorem parts_all : ofL (siftL X Y true ++ siftL X Y false) = ofL X := by
  rw [srt_eq (ofL_srt _) (ofL_srt _)]
  intro x
  rw [mem_union, mem_meet, mem_minus, ofL_mem]
  by_cases h1 : x ∈ X <;> by_cases h2 : x ∈ Y <;> simp [h1, h2]
theorem parts_left : siftL X (siftL X Y false) false = siftL X Y true := by
  rw [srt_eq (siftL_srt _ _ _) (siftL_srt _ _ _)]
  intro x
  rw [mem_minus, mem_minus, mem_meet]
  by_cases h1 : x ∈ X <;> by_cases h2 : x ∈ Y <;> simp [h1, h2]
theorem parts_minus : siftL X (ofL (Y ++ Z)) false = siftL (siftL X Y false) Z false := by
  rw [srt_eq (siftL_srt _ _ _) (siftL_srt _ _ _)]
  intro x
  rw [mem_minus, mem_minus, mem_minus, mem_union]
  by_cases h1 : x ∈ X <;> by_cases h2 : x ∈ Y <;> by_cases h3 : x ∈ Z <;> simp [h1, h2, h3]
theorem parts_meet : siftL X (ofL (Y ++ Z)) true = ofL (siftL X Y true ++ siftL X Z true) := by
  rw [srt_eq (siftL_srt _ _ _) (ofL_srt _)]
  intro x
  rw [mem_meet, mem_union, mem_union, mem_meet, mem_meet]
  by_cases h1 : x ∈ X <;> by_cases h2 : x ∈ Y <;> by_cases h3 : x ∈ Z <;> simp [h1, h2, h3]
end

end Go.Proofs.Ytladdpfngoldcaa
