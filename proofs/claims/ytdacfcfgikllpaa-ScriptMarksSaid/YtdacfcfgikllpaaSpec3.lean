/- Plain: groups, clusters and order as the program has them; the stable sort of places by class. -/
import Derived.Test.YtdacfcfgikllpaaSpec2
import Derived.Test.YtdacfcfgikllpaaSort
namespace Go.Proofs.Ytdacfcfgikllpaa

def Kc (xs : List Int) (p : Nat) : Int := cls (xs.getD p 0)

theorem lex_asymm {K : Nat → Int} {p q : Nat} (h : lex K p q) : ¬ lex K q p := by unfold lex at *; omega
theorem lex_total {K : Nat → Int} {p q : Nat} (h : p ≠ q) : lex K p q ∨ lex K q p := by unfold lex; omega

theorem sorted_unique {r : Nat → Nat → Prop} (has : ∀ a b, r a b → ¬ r b a) : ∀ (l1 l2 : List Nat), l1.Pairwise r → l2.Pairwise r → (∀ x, x ∈ l1 ↔ x ∈ l2) → l1 = l2
  | [], [], _, _, _ => rfl
  | [], b :: t, _, _, h => absurd ((h b).2 (by simp)) (by simp)
  | a :: t, [], _, _, h => absurd ((h a).1 (by simp)) (by simp)
  | a :: t1, b :: t2, h1, h2, h => by
    rw [List.pairwise_cons] at h1 h2
    have hab : a = b := by
      have ha := (h a).1 (by simp)
      have hb := (h b).2 (by simp)
      simp only [List.mem_cons] at ha hb
      rcases ha with ha | ha
      · exact ha
      · rcases hb with hb | hb
        · exact hb.symm
        · exact absurd (h1.1 b hb) (has _ _ (h2.1 a ha))
    subst hab
    have ht : t1 = t2 := sorted_unique has t1 t2 h1.2 h2.2 (fun x => by
      have hx := h x
      simp only [List.mem_cons] at hx
      constructor
      · intro m
        rcases hx.1 (.inr m) with e | e
        · subst e; exact absurd (h1.1 x m) (has _ _ (h1.1 x m))
        · exact e
      · intro m
        rcases hx.2 (.inr m) with e | e
        · subst e; exact absurd (h2.1 x m) (has _ _ (h2.1 x m))
        · exact e)
    rw [ht]

/-- Insertion by class and place. -/
def insL (K : Nat → Int) (p : Nat) : List Nat → List Nat
  | [] => [p]
  | q :: t => if K p < K q ∨ (K p = K q ∧ p < q) then p :: q :: t else q :: insL K p t
def ssort (K : Nat → Int) : List Nat → List Nat
  | [] => []
  | p :: t => insL K p (ssort K t)

theorem mem_insL {K : Nat → Int} {p x : Nat} {l : List Nat} : x ∈ insL K p l ↔ x = p ∨ x ∈ l := by
  induction l with
  | nil => simp [insL]
  | cons q t ih =>
    unfold insL
    split
    · simp
    · simp only [List.mem_cons, ih]; exact ⟨fun h => by rcases h with h | h | h <;> simp [h], fun h => by rcases h with h | h | h <;> simp [h]⟩
theorem mem_ssort {K : Nat → Int} {x : Nat} {l : List Nat} : x ∈ ssort K l ↔ x ∈ l := by
  induction l with
  | nil => simp [ssort]
  | cons p t ih => simp [ssort, mem_insL, ih]
theorem length_insL {K : Nat → Int} {p : Nat} {l : List Nat} : (insL K p l).length = l.length + 1 := by
  induction l with
  | nil => rfl
  | cons q t ih => unfold insL; split <;> simp [ih]
theorem length_ssort {K : Nat → Int} {l : List Nat} : (ssort K l).length = l.length := by
  induction l with
  | nil => rfl
  | cons p t ih => simp [ssort, length_insL, ih]
theorem pw_insL {K : Nat → Int} {p : Nat} {l : List Nat} (h : l.Pairwise (lex K)) (hp : p ∉ l) : (insL K p l).Pairwise (lex K) := by
  induction l with
  | nil => simp [insL]
  | cons q t ih =>
    rw [List.pairwise_cons] at h
    simp only [List.mem_cons, not_or] at hp
    unfold insL
    split
    · rename_i hc
      rw [List.pairwise_cons, List.pairwise_cons]
      refine ⟨fun x hx => ?_, h.1, h.2⟩
      simp only [List.mem_cons] at hx
      rcases hx with rfl | hx
      · exact hc
      · exact lex_trans hc (h.1 x hx)
    · rename_i hc
      rw [List.pairwise_cons]
      refine ⟨fun x hx => ?_, ih h.2 hp.2⟩
      rcases mem_insL.1 hx with rfl | hx
      · rcases lex_total (K := K) hp.1 with h' | h'
        · exact absurd h' hc
        · exact h'
      · exact h.1 x hx
theorem pw_ssort {K : Nat → Int} {l : List Nat} (h : l.Nodup) : (ssort K l).Pairwise (lex K) := by
  induction l with
  | nil => simp [ssort]
  | cons p t ih =>
    rw [List.nodup_cons] at h
    exact pw_insL (ih h.2) (fun hm => h.1 (mem_ssort.1 hm))

/-- What the walk gives of a sorted row is the sorted list. -/
theorem ssort_of {K : Nat → Int} {f f' : Nat → Nat} {L : Nat} (hp : Prm f f' 0 L) (hs : Srt K f' 0 L) (hi : Inc f 0 L) : (List.range L).map f' = ssort K ((List.range L).map f) := by
  refine sorted_unique (r := lex K) (fun _ _ h => lex_asymm h) _ _ ?_ (pw_ssort ?_) (fun x => ?_)
  · rw [List.pairwise_map]
    refine List.Pairwise.imp_of_mem ?_ List.pairwise_lt_range
    intro a b ha hb hab
    exact hs a b (by omega) hab (by simpa using hb)
  · unfold List.Nodup
    rw [List.pairwise_map]
    refine List.Pairwise.imp_of_mem ?_ List.pairwise_lt_range
    intro a b ha hb hab
    have := hi a b (by omega) hab (by simpa using hb)
    omega
  · rw [mem_ssort]
    simp only [List.mem_map, List.mem_range]
    constructor
    · rintro ⟨i, hi', rfl⟩
      obtain ⟨j, _, j2, e⟩ := hp.2.1 i (by omega) hi'
      exact ⟨j, j2, e.symm⟩
    · rintro ⟨i, hi', rfl⟩
      obtain ⟨j, _, j2, e⟩ := hp.2.2 i (by omega) hi'
      exact ⟨j, j2, e.symm⟩

/-- The places of a group, as they are shown. -/
def shownL (xs : List Int) (from_ to_ : Nat) : List Nat :=
  if from_ < to_ ∧ kind (xs.getD from_ 0) ≠ 3 then from_ :: ssort (Kc xs) (List.range' (from_ + 1) (to_ - from_ - 1))
  else ssort (Kc xs) (List.range' from_ (to_ - from_))
theorem shownL_length (xs : List Int) (a b : Nat) : (shownL xs a b).length = b - a := by
  unfold shownL
  split
  · simp [length_ssort]; omega
  · simp [length_ssort]

theorem range_shift (a L : Nat) : List.range' a L = (List.range L).map (fun i => a + i) := by
  rw [List.range'_eq_map_range]

/-- The groups of runes: from a place on, those that begin behind 'from_', 'i' being the next rune to be looked at. -/
def groupsFrom (xs : List Int) : Nat → Nat → Nat → List (Nat × Nat)
  | 0, from_, _ => if from_ < xs.length then [(from_, xs.length)] else []
  | f + 1, from_, i => if i = from_ ∨ kind (xs.getD i 0) = 3 then groupsFrom xs f from_ (i + 1) else (from_, i) :: groupsFrom xs f i (i + 1)
def groupsL (xs : List Int) : List (Nat × Nat) := groupsFrom xs xs.length 0 0

/-- The program's Clusters: over the groups; 'syl': a vowel would go with what is ahead. -/
def clusStep (xs : List Int) (st : List Nat × Bool) (g : Nat × Nat) : List Nat × Bool :=
  if kind (xs.getD g.1 0) = 5 ∧ st.2 = true then st else (st.1 ++ [g.1], decide (kind (xs.getD g.1 0) = 4))
def clustersL (xs : List Int) : List Nat := ((groupsL xs).foldl (clusStep xs) ([], false)).1

/-- The program's Order: what is shown, and the consonant's group that waits. -/
def ordStep (xs : List Int) (st : List Nat × (Nat × Nat)) (g : Nat × Nat) : List Nat × (Nat × Nat) :=
  let k := kind (xs.getD g.1 0)
  let st1 := if k ≠ 5 then (st.1 ++ shownL xs st.2.1 st.2.2, (0, 0)) else st
  if k = 4 then (st1.1, g) else (st1.1 ++ shownL xs g.1 g.2, st1.2)
def orderL (xs : List Int) : List Nat :=
  let st := (groupsL xs).foldl (ordStep xs) ([], (0, 0))
  st.1 ++ shownL xs st.2.1 st.2.2

end Go.Proofs.Ytdacfcfgikllpaa
