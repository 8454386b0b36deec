/- Plain: ranges cover their set. -/
import Derived.Test.YtladdpfngoldcaaW6
namespace Go.Proofs.Ytladdpfngoldcaa

/-- The numbers of a range, so many of them. -/
def nums (a : Int) (k : Nat) : List Int := (List.range k).map fun (i : Nat) => a + (i : Int)
theorem nums_zero (a : Int) : nums a 0 = [] := rfl
theorem nums_snoc (a : Int) (k : Nat) : nums a (k + 1) = nums a k ++ [a + (k : Int)] := by simp [nums, List.range_succ]
theorem nums_cons (a : Int) (k : Nat) : nums a (k + 1) = a :: nums (a + 1) k := by
  unfold nums
  rw [List.range_succ_eq_map, List.map_cons, List.map_map]
  congr 1
  · simp
  · apply List.map_congr_left
    intro i _
    simp; omega
def numsOf (p : Int × Int) : List Int := nums p.1 (p.2 - p.1 + 1).toNat
def cov (l : List (Int × Int)) : List Int := l.flatMap numsOf
theorem cov_nil : cov [] = [] := rfl
theorem cov_cons (p : Int × Int) (l : List (Int × Int)) : cov (p :: l) = numsOf p ++ cov l := rfl
theorem cov_snoc (l : List (Int × Int)) (p : Int × Int) : cov (l ++ [p]) = cov l ++ numsOf p := by simp [cov]
theorem rgs_le (T : List Int) : ∀ p ∈ rgs T, p.1 ≤ p.2 := by
  induction T with
  | nil => intro p hp; simp [rgs] at hp
  | cons x t ih =>
    intro p hp
    unfold rgs at hp
    split at hp
    · simp at hp; subst hp; exact Int.le_refl _
    · rename_i a b r e
      have hab := ih (a, b) (by rw [e]; simp)
      simp only at hab
      split at hp
      · rcases List.mem_cons.1 hp with rfl | hp
        · simp only; omega
        · exact ih p (by rw [e]; simp [hp])
      · rcases List.mem_cons.1 hp with rfl | hp
        · exact Int.le_refl _
        · exact ih p (by rw [e]; exact hp)
theorem rgs_cov (T : List Int) : cov (rgs T) = T := by
  induction T with
  | nil => rfl
  | cons x t ih =>
    have hle := rgs_le t
    unfold rgs
    split
    · rename_i e
      rw [e] at ih
      rw [← ih]
      simp [cov, numsOf, nums]
    · rename_i a b r e
      rw [e] at ih hle
      have hab := hle (a, b) (by simp)
      simp only at hab
      rw [cov_cons] at ih
      split
      · rename_i hx
        subst hx
        rw [cov_cons, ← ih]
        unfold numsOf
        simp only
        rw [show (b - x + 1).toNat = (b - (x + 1) + 1).toNat + 1 by omega, nums_cons]
        rfl
      · rw [cov_cons, cov_cons, ih]
        unfold numsOf
        simp only
        rw [show (x - x + 1).toNat = 0 + 1 by omega, nums_cons]
        rfl
theorem rgs_first {T : List Int} {p : Int × Int} {r : List (Int × Int)} (h : rgs T = p :: r) : ∃ t, T = p.1 :: t := by
  cases T with
  | nil => simp [rgs] at h
  | cons x t =>
    obtain ⟨b, r', e⟩ := rgs_head x t
    rw [e] at h; injection h with h1 h2; subst h1
    exact ⟨t, rfl⟩
/-- Ranges rise, and are apart. -/
def Apt : List (Int × Int) → Prop
  | p :: q :: r => p.2 + 1 < q.1 ∧ Apt (q :: r)
  | _ => True
theorem Apt.next {l : List (Int × Int)} (h : Apt l) {i : Nat} {p q : Int × Int} (hp : l[i]? = some p) (hq : l[i + 1]? = some q) : p.2 + 1 < q.1 := by
  induction l generalizing i with
  | nil => simp at hp
  | cons a t ih =>
    cases t with
    | nil => simp at hq
    | cons b t =>
      cases i with
      | zero => simp at hp hq; subst hp; subst hq; exact h.1
      | succ i => exact ih h.2 (by simpa using hp) (by simpa using hq)
theorem rgs_apart {T : List Int} (hT : Srt T) : Apt (rgs T) := by
  induction T with
  | nil => simp [rgs, Apt]
  | cons x t ih =>
    have hT' : x < (t.headD (x + 1)) ∧ Srt t := by
      unfold Srt at hT
      rw [List.pairwise_cons] at hT
      refine ⟨?_, hT.2⟩
      cases t with
      | nil => simp; omega
      | cons y t => exact hT.1 y (by simp)
    have ih := ih hT'.2
    unfold rgs
    split
    · simp [Apt]
    · rename_i a b r e
      rw [e] at ih
      obtain ⟨t', ht'⟩ := rgs_first e
      simp only at ht'
      have hxa : x < a := by have := hT'.1; rw [ht'] at this; simpa using this
      split
      · cases r with
        | nil => simp [Apt]
        | cons q r => exact ih
      · rename_i hne
        exact ⟨by simp only; omega, ih⟩
theorem rgs_next {T : List Int} (hT : Srt T) {i : Nat} {p q : Int × Int} (hp : (rgs T)[i]? = some p) (hq : (rgs T)[i + 1]? = some q) : p.2 + 1 < q.1 := (rgs_apart hT).next hp hq
theorem cov_mem_len {l : List (Int × Int)} {p : Int × Int} (h : p ∈ l) : (numsOf p).length ≤ (cov l).length := by
  induction l with
  | nil => cases h
  | cons q l ih =>
    rw [cov_cons, List.length_append]
    rcases List.mem_cons.1 h with rfl | h
    · omega
    · have := ih h; omega
theorem rgs_short {T : List Int} {p : Int × Int} (hp : p ∈ rgs T) : p.2 - p.1 < T.length := by
  have h1 := cov_mem_len hp
  rw [rgs_cov] at h1
  have h2 := rgs_le T p hp
  have : (numsOf p).length = (p.2 - p.1 + 1).toNat := by simp [numsOf, nums]
  omega

end Go.Proofs.Ytladdpfngoldcaa
