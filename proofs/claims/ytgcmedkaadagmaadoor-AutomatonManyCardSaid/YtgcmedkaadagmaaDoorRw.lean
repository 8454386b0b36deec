/- Words: rows of elements of k cells each, as lists of cells. -/
import Derived.Test.YtgcmedkaadagmaaDoorOw
import Derived.Handy
import Derived.Deep.Slices
namespace Go.Proofs.YtgcmedkaadagmaaDoor
open Go.RowKit Go.Shelf

def RowOf {α : Type} (k : Nat) (E : List Value → α → Prop) (css : List (List Value)) (xs : List α) : Prop := css.length = xs.length ∧ (∀ cs ∈ css, cs.length = k) ∧ ∀ (i : Nat) (cs : List Value) (x : α), css[i]? = some cs → xs[i]? = some x → E cs x
theorem flat_len {k : Nat} : ∀ {css : List (List Value)}, (∀ cs ∈ css, cs.length = k) → css.flatten.length = css.length * k
  | [], _ => by simp
  | c :: css, h => by
    rw [List.flatten_cons, List.length_append, flat_len fun x hx => h x (List.mem_cons_of_mem _ hx), h c (List.mem_cons_self ..), List.length_cons, Nat.add_mul]; omega
theorem flat_at {k : Nat} : ∀ {css : List (List Value)} {i j : Nat} {cs : List Value} {v : Value}, (∀ cs ∈ css, cs.length = k) → css[i]? = some cs → cs[j]? = some v → css.flatten[i * k + j]? = some v
  | [], i, j, cs, v, _, h, _ => by simp at h
  | c :: css, 0, j, cs, v, hk, h, hv => by
    simp at h; subst h
    rw [List.flatten_cons, Nat.zero_mul, Nat.zero_add, List.getElem?_append_left (List.getElem?_eq_some_iff.1 hv).1]; exact hv
  | c :: css, i + 1, j, cs, v, hk, h, hv => by
    have hc := hk c (List.mem_cons_self ..)
    rw [List.flatten_cons, List.getElem?_append_right (by rw [hc, Nat.add_mul]; omega), hc, show (i + 1) * k + j - k = i * k + j by rw [Nat.add_mul]; omega]
    exact flat_at (fun x hx => hk x (List.mem_cons_of_mem _ hx)) (by simpa using h) hv
theorem flat_of {k : Nat} : ∀ {css : List (List Value)} {p : Nat} {v : Value}, (∀ cs ∈ css, cs.length = k) → css.flatten[p]? = some v → ∃ i j cs, p = i * k + j ∧ css[i]? = some cs ∧ cs[j]? = some v
  | [], p, v, _, h => by simp at h
  | c :: css, p, v, hk, h => by
    have hc := hk c (List.mem_cons_self ..)
    rw [List.flatten_cons] at h
    by_cases hp : p < c.length
    · rw [List.getElem?_append_left hp] at h
      exact ⟨0, p, c, by simp, rfl, h⟩
    · rw [List.getElem?_append_right (by omega)] at h
      obtain ⟨i, j, cs, e, h1, h2⟩ := flat_of (fun x hx => hk x (List.mem_cons_of_mem _ hx)) h
      exact ⟨i + 1, j, cs, by rw [Nat.add_mul]; omega, by simpa using h1, h2⟩
theorem flat_set {k : Nat} : ∀ {css : List (List Value)} {i j : Nat} {cs : List Value} (v : Value), (∀ cs ∈ css, cs.length = k) → css[i]? = some cs → j < k → css.flatten.set (i * k + j) v = (css.set i (cs.set j v)).flatten
  | [], i, j, cs, v, _, h, _ => by simp at h
  | c :: css, 0, j, cs, v, hk, h, hj => by
    simp at h; subst h
    have hc := hk c (List.mem_cons_self ..)
    rw [List.flatten_cons, Nat.zero_mul, Nat.zero_add, List.set_append_left _ _ (by omega), List.set_cons_zero, List.flatten_cons]
  | c :: css, i + 1, j, cs, v, hk, h, hj => by
    have hc := hk c (List.mem_cons_self ..)
    rw [List.flatten_cons, List.set_append_right _ _ (by rw [hc, Nat.add_mul]; omega), hc, show (i + 1) * k + j - k = i * k + j by rw [Nat.add_mul]; omega, flat_set v (fun x hx => hk x (List.mem_cons_of_mem _ hx)) (by simpa using h) hj, List.set_cons_succ, List.flatten_cons]
section
variable {α : Type} {k : Nat} {E E' : List Value → α → Prop} {css ds : List (List Value)} {xs ys : List α}
theorem RowOf.nil : RowOf k E [] ([] : List α) := ⟨rfl, (fun _ h => by cases h), fun i cs x h => by simp at h⟩
theorem RowOf.app (h : RowOf k E css xs) (h' : RowOf k E ds ys) : RowOf k E (css ++ ds) (xs ++ ys) := by
  refine ⟨by rw [List.length_append, List.length_append, h.1, h'.1], fun cs hc => ?_, fun i cs x h1 h2 => ?_⟩
  · rcases List.mem_append.1 hc with hc | hc
    · exact h.2.1 cs hc
    · exact h'.2.1 cs hc
  · by_cases hi : i < css.length
    · rw [List.getElem?_append_left hi] at h1
      rw [List.getElem?_append_left (by rw [← h.1]; exact hi)] at h2
      exact h.2.2 i cs x h1 h2
    · rw [List.getElem?_append_right (by omega)] at h1
      rw [List.getElem?_append_right (by rw [← h.1]; omega), ← h.1] at h2
      exact h'.2.2 _ cs x h1 h2
theorem RowOf.one {cs : List Value} {x : α} (h : E cs x) (hl : cs.length = k) : RowOf k E [cs] [x] := by
  refine ⟨rfl, fun c hc => by rw [List.mem_singleton] at hc; rw [hc]; exact hl, fun i c y h1 h2 => ?_⟩
  cases i with
  | zero => simp at h1 h2; subst h1; subst h2; exact h
  | succ i => simp at h1
theorem RowOf.set (h : RowOf k E css xs) {i : Nat} {cs : List Value} {y : α} (hl : cs.length = k) (he : E cs y) : RowOf k E (css.set i cs) (xs.set i y) := by
  refine ⟨by simp [h.1], fun c hc => ?_, fun j c z h1 h2 => ?_⟩
  · rcases List.mem_or_eq_of_mem_set hc with hc | hc
    · exact h.2.1 c hc
    · rw [hc]; exact hl
  · by_cases e : i = j
    · subst e
      rw [List.getElem?_set] at h1 h2
      simp at h1 h2
      obtain ⟨_, rfl⟩ := h1
      obtain ⟨_, rfl⟩ := h2
      exact he
    · rw [List.getElem?_set_ne e] at h1 h2
      exact h.2.2 j c z h1 h2
theorem RowOf.mono (h : RowOf k E css xs) (hE : ∀ cs x, E cs x → E' cs x) : RowOf k E' css xs := ⟨h.1, h.2.1, fun i cs x h1 h2 => hE cs x (h.2.2 i cs x h1 h2)⟩
theorem RowOf.at (h : RowOf k E css xs) {i : Nat} {x : α} (hx : xs[i]? = some x) : ∃ cs, css[i]? = some cs ∧ E cs x ∧ cs.length = k := by
  have hi : i < css.length := by rw [h.1]; exact (List.getElem?_eq_some_iff.1 hx).1
  exact ⟨css[i], List.getElem?_eq_getElem hi, h.2.2 i _ x (List.getElem?_eq_getElem hi) hx, h.2.1 _ (List.getElem_mem hi)⟩
/-- The cells of a slice. -/
theorem RowOf.news [Inhabited α] {w : World} {S : Nat → Prop} {A : Option Addr} {n : Nat} (h : SlE k E w S A n xs) (hk : ∀ cs x, E cs x → cs.length = k) : ∃ css, RowOf k E css xs ∧ css.flatten.length = n * k ∧ (0 < n → ∃ b o, A = some ⟨b, o, none⟩ ∧ ∀ j u, css.flatten[j]? = some u → w.cell? ⟨b, o + j, none⟩ = some u) := by
  by_cases hn : n = 0
  · subst hn
    have : xs = [] := List.eq_nil_of_length_eq_zero h.1
    subst this
    exact ⟨[], RowOf.nil, by simp, fun h => absurd h (by omega)⟩
  · obtain ⟨b, o, hA, _, hc⟩ := h.2 (by omega)
    have hch : ∀ i, i < xs.length → ∃ cs : List Value, ∃ x, xs[i]? = some x ∧ E cs x ∧ ∀ (j : Nat) (v : Value), cs[j]? = some v → w.cell? ⟨b, o + i * k + j, none⟩ = some v := fun i hi => by
      obtain ⟨cs, h1, h2⟩ := hc i xs[i] (List.getElem?_eq_getElem hi)
      exact ⟨cs, _, List.getElem?_eq_getElem hi, h1, h2⟩
    obtain ⟨g, hg⟩ := Deep.choose_lt hch
    have hR : RowOf k E ((List.range xs.length).map g) xs := by
      refine ⟨by simp, fun cs hcs => ?_, fun i cs x h1 h2 => ?_⟩
      · obtain ⟨i, hi, rfl⟩ := List.mem_map.1 hcs
        obtain ⟨x, _, h1, _⟩ := hg i (List.mem_range.1 hi)
        exact hk _ x h1
      · have hi := (List.getElem?_eq_some_iff.1 h2).1
        simp [hi] at h1
        subst h1
        obtain ⟨y, h3, h4, _⟩ := hg i hi
        rw [h2] at h3; injection h3 with h3; subst h3
        exact h4
    refine ⟨_, hR, by rw [flat_len hR.2.1, hR.1, h.1], fun _ => ⟨b, o, hA, fun j u hu => ?_⟩⟩
    obtain ⟨i, q, cs, rfl, h1, h2⟩ := flat_of hR.2.1 hu
    have hi : i < xs.length := by have := (List.getElem?_eq_some_iff.1 h1).1; simpa using this
    simp [hi] at h1
    subst h1
    obtain ⟨_, _, _, h5⟩ := hg i hi
    have := h5 q u h2
    rw [← Nat.add_assoc]; exact this
/-- A row of the call's own, read. -/
theorem Ow.row {e : Nat} {w : World} {base n c : Nat} {A : Option Addr} (h : Ow e k w base A n c css.flatten) (hr : RowOf k E css xs) (hk : 0 < k) : SlE k E w (lo w.heap.size) A n xs := by
  have hl := h.len
  rw [flat_len hr.2.1] at hl
  have hn : css.length = n := Nat.eq_of_mul_eq_mul_right hk hl
  refine ⟨by rw [← hr.1]; exact hn, fun h0 => ?_⟩
  obtain ⟨g, rfl, _, hlt⟩ := h.form h0
  refine ⟨g, 0, rfl, hlt, fun i x hx => ?_⟩
  obtain ⟨cs, h1, h2, _⟩ := hr.at hx
  refine ⟨cs, h2, fun j v hv => ?_⟩
  rw [Nat.zero_add]
  exact h.cell (flat_at hr.2.1 h1 hv)
/-- A cell of an element is stored. -/
theorem Ow.put {e : Nat} {w : World} {base g n c : Nat} (h : Ow e k w base (some ⟨g, 0, none⟩) n c css.flatten) (hr : RowOf k E css xs) {i j : Nat} {cs : List Value} (hi : css[i]? = some cs) (hj : j < k) (v : Value) : Ow e k (w.setCell ⟨g, i * k + j, none⟩ v) base (some ⟨g, 0, none⟩) n c (css.set i (cs.set j v)).flatten := by
  have := h.stored (i * k + j) v
  rw [flat_set v hr.2.1 hi hj] at this
  exact this
theorem RowOf.one_cells (h : RowOf k E css xs) (h1 : ∀ cs x, E cs x → ∀ u ∈ cs, u.oneCell' = true) : ∀ u ∈ css.flatten, u.oneCell' = true := fun u hu => by
  obtain ⟨cs, h2, h3⟩ := List.mem_flatten.1 hu
  obtain ⟨i, hi⟩ := List.mem_iff_getElem?.1 h2
  have hil := (List.getElem?_eq_some_iff.1 hi).1
  exact h1 cs _ (h.2.2 i cs _ hi (List.getElem?_eq_getElem (by rw [← h.1]; exact hil))) u h3
end

end Go.Proofs.YtgcmedkaadagmaaDoor
