/- Plain words: states that are few are all gone over. -/
import Derived.Test.YtgcmedkaadagmaaDoorAU7
namespace Go.Proofs.YtgcmedkaadagmaaDoor

section
variable {α : Type} [DecidableEq α] {nx : α → Nat → Option α} {K : Nat}
theorem statesL_some {M : List α} (hM : ∀ p ∈ M, ∀ c, c < K → ∀ q, nx p c = some q → q ∈ M) (hl : M.length ≤ 20000) : ∀ (f n : Nat) (met : List α) (tab : List (List Int)), 20002 ≤ f + n → n ≤ met.length → met.Nodup → (∀ p ∈ met, p ∈ M) →
    ∃ r, statesL nx K f n met tab = some r ∧ ∀ q ∈ r.2, q ∈ M
  | 0, n, met, tab, h1, h2, h3, h4 => by have := nodup_len h3 h4; omega
  | f + 1, n, met, tab, h1, h2, h3, h4 => by
    rw [statesL]
    cases hs : met[n]? with
    | none => exact ⟨_, rfl, h4⟩
    | some src =>
      dsimp only
      obtain ⟨t, e1, e2, e3, e4, e5, _⟩ := rowL_spec nx src met h3 K
      have hm : ∀ p ∈ (rowL nx src met K).2, p ∈ M := fun p hp => by
        rw [e1] at hp
        rcases List.mem_append.1 hp with hp | hp
        · exact h4 p hp
        · obtain ⟨k, hk, e⟩ := e5 p hp
          exact hM src (h4 src (List.mem_of_getElem? hs)) k hk p e
      have hle := nodup_len e2 hm
      rw [if_neg (by omega)]
      refine statesL_some hM hl f (n + 1) _ _ (by omega) ?_ e2 hm
      have := (List.getElem?_eq_some_iff.1 hs).1
      rw [e1, List.length_append]; omega
theorem allL_some {M : List α} (hM : ∀ p ∈ M, ∀ c, c < K → ∀ q, nx p c = some q → q ∈ M) (hl : M.length ≤ 20000) {p0 : α} (h0 : p0 ∈ M) : ∃ r, allL nx K p0 = some r ∧ ∀ q ∈ r.2, q ∈ M :=
  statesL_some hM hl 20002 0 [p0] [] (by omega) (by simp) (by simp) (fun p hp => by rw [List.mem_singleton] at hp; rw [hp]; exact h0)
end
/-- Few rules with short rows have few states. -/
theorem allP_some {rows : List (List (List Int))} (cls : List Int) (K : Nat) {k m : Nat} (hm : ∀ row ∈ rows, row.length ≤ m) (hl : (m + 1) * 2 ^ k ≤ 20000) {x : Nat} (hx : x < 2 ^ k) : ∃ r, allL (nxP rows cls) K (0, x) = some r := by
  have key : ∀ p : Nat × Nat, p ∈ ((List.range (m + 1)).flatMap fun a => (List.range (2 ^ k)).map fun b => (a, b)) ↔ p.1 ≤ m ∧ p.2 < 2 ^ k := fun p => by
    rw [List.mem_flatMap]
    constructor
    · rintro ⟨a, ha, h⟩
      obtain ⟨b, hb, rfl⟩ := List.mem_map.1 h
      rw [List.mem_range] at ha hb
      exact ⟨by dsimp only; omega, hb⟩
    · rintro ⟨h1, h2⟩
      exact ⟨p.1, List.mem_range.2 (by omega), List.mem_map.2 ⟨p.2, List.mem_range.2 h2, rfl⟩⟩
  have hM : ∀ p ∈ ((List.range (m + 1)).flatMap fun a => (List.range (2 ^ k)).map fun b => (a, b)), ∀ c, c < K → ∀ q, nxP rows cls p c = some q → q ∈ ((List.range (m + 1)).flatMap fun a => (List.range (2 ^ k)).map fun b => (a, b)) := fun p hp c _ q hq => by
    obtain ⟨h1, h2⟩ := (key p).1 hp
    obtain ⟨e1, e2, e3, _⟩ := nxP_some hq
    refine (key q).2 ⟨?_, by rw [e3]; exact and_lt_left _ h2⟩
    rw [e1]
    rw [e3] at e2
    obtain ⟨b, hb⟩ := ne_zero_bit e2
    rw [Nat.testBit_and, Bool.and_eq_true] at hb
    have hb := hb.2
    unfold nextM at hb
    rw [bitsOf_bit] at hb
    simp only [Bool.and_eq_true, decide_eq_true_eq] at hb
    obtain ⟨h3, h4, _⟩ := hb
    have := hm _ (List.getElem_mem h3)
    rw [List.getD_eq_getElem?_getD, List.getElem?_eq_getElem h3] at h4
    simp only [Option.getD_some] at h4
    omega
  have hL : ((List.range (m + 1)).flatMap fun a => (List.range (2 ^ k)).map fun b => (a, b)).length ≤ 20000 := by
    rw [List.length_flatMap]
    simp only [List.length_map, List.length_range]
    rw [sum_const, List.length_range]; exact hl
  obtain ⟨r, h, _⟩ := allL_some hM hL ((key (0, x)).2 ⟨Nat.zero_le _, hx⟩)
  exact ⟨r, h⟩

end Go.Proofs.YtgcmedkaadagmaaDoor
