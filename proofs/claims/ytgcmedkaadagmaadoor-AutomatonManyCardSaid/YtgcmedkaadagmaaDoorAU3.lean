/- Plain words: states gone over in the order in which they are met; what comes of it; two such goings over are alike. -/
import Derived.Test.YtgcmedkaadagmaaDoorAU2
namespace Go.Proofs.YtgcmedkaadagmaaDoor

section
variable {α : Type}
/-- What a row of the table says. -/
def RowSays (nx : α → Nat → Option α) (src : α) (met : List α) (row : List Int) : Prop :=
  ∀ c, c < row.length → (nx src c = none ∧ row[c]? = some (-1)) ∨ ∃ (q : α) (j : Nat), nx src c = some q ∧ met[j]? = some q ∧ row[c]? = some (j : Int)
theorem RowSays.more {nx : α → Nat → Option α} {src : α} {met : List α} {row : List Int} (h : RowSays nx src met row) (t : List α) : RowSays nx src (met ++ t) row := fun c hc => by
  rcases h c hc with h | ⟨q, j, h1, h2, h3⟩
  · exact .inl h
  · exact .inr ⟨q, j, h1, by rw [List.getElem?_append_left (List.getElem?_eq_some_iff.1 h2).1]; exact h2, h3⟩
theorem RowSays.snoc {nx : α → Nat → Option α} {src : α} {met : List α} {row : List Int} (h : RowSays nx src met row) {x : Int} (hx : (nx src row.length = none ∧ x = -1) ∨ ∃ (q : α) (j : Nat), nx src row.length = some q ∧ met[j]? = some q ∧ x = (j : Int)) : RowSays nx src met (row ++ [x]) := fun c hc => by
  by_cases e : c = row.length
  · subst e
    rcases hx with ⟨h1, rfl⟩ | ⟨q, j, h1, h2, rfl⟩
    · exact .inl ⟨h1, by simp⟩
    · exact .inr ⟨q, j, h1, h2, by simp⟩
  · have hl : c < row.length := by simp at hc; omega
    rw [List.getElem?_append_left hl]
    exact h c hl
/-- So far n states were gone over. -/
structure StOK (nx : α → Nat → Option α) (K : Nat) (p0 : α) (n : Nat) (met : List α) (tab : List (List Int)) : Prop where
  nd : met.Nodup
  h0 : met[0]? = some p0
  len : tab.length = n
  le : n ≤ met.length
  mx : met.length ≤ 20000
  all : ∀ (i : Nat) (src : α) (row : List Int), met[i]? = some src → tab[i]? = some row → row.length = K ∧ RowSays nx src met row
  come : ∀ q ∈ met, q = p0 ∨ ∃ p ∈ met, ∃ k, k < K ∧ nx p k = some q
theorem StOK.start (nx : α → Nat → Option α) (K : Nat) (p0 : α) : StOK nx K p0 0 [p0] [] :=
  ⟨by simp, rfl, rfl, by simp, by simp, (fun i src row _ h => by simp at h), fun q h => .inl (by simpa using h)⟩
end

section
variable {α : Type} [DecidableEq α]
/-- The number of a state, and the states met behind it. -/
def meetL (met : List α) (p : α) : Nat × List α :=
  match met.idxOf? p with
  | some i => (i, met)
  | none => (met.length, met ++ [p])
theorem meetL_spec {met : List α} (p : α) (hn : met.Nodup) : ∃ t, (meetL met p).2 = met ++ t ∧ (meetL met p).2.Nodup ∧ (meetL met p).2[(meetL met p).1]? = some p ∧ (∀ q ∈ t, q = p) ∧ t.length ≤ 1 := by
  unfold meetL
  cases h : met.idxOf? p with
  | some i =>
    rw [List.idxOf?, List.findIdx?_eq_some_iff_getElem] at h
    obtain ⟨h1, h2, _⟩ := h
    refine ⟨[], by simp, hn, ?_, (by simp), by simp⟩
    rw [List.getElem?_eq_getElem h1]
    simpa using h2
  | none =>
    rw [List.idxOf?_eq_none_iff] at h
    refine ⟨[p], rfl, ?_, by simp, (by simp), by simp⟩
    rw [List.nodup_append]
    refine ⟨hn, by simp, ?_⟩
    intro a ha b hb
    simp at hb; subst hb
    exact fun e => h (e ▸ ha)
def rowL (nx : α → Nat → Option α) (src : α) (met : List α) : Nat → List Int × List α
  | 0 => ([], met)
  | c + 1 =>
    match nx src c with
    | none => ((rowL nx src met c).1 ++ [-1], (rowL nx src met c).2)
    | some q => ((rowL nx src met c).1 ++ [((meetL (rowL nx src met c).2 q).1 : Int)], (meetL (rowL nx src met c).2 q).2)
theorem rowL_spec (nx : α → Nat → Option α) (src : α) (met : List α) (hn : met.Nodup) : ∀ c, ∃ t, (rowL nx src met c).2 = met ++ t ∧ (rowL nx src met c).2.Nodup ∧ (rowL nx src met c).1.length = c ∧ t.length ≤ c ∧ (∀ q ∈ t, ∃ k, k < c ∧ nx src k = some q) ∧ RowSays nx src (rowL nx src met c).2 (rowL nx src met c).1
  | 0 => ⟨[], by simp [rowL], hn, rfl, by simp, (by simp), fun c hc => by simp [rowL] at hc⟩
  | c + 1 => by
    obtain ⟨t, h1, h2, h3, h4, h5, h6⟩ := rowL_spec nx src met hn c
    rw [rowL]
    cases hq : nx src c with
    | none =>
      refine ⟨t, h1, h2, by simp [h3], by omega, fun q hqm => ?_, h6.snoc (.inl ⟨by rw [h3]; exact hq, rfl⟩)⟩
      obtain ⟨k, hk, e⟩ := h5 q hqm
      exact ⟨k, by omega, e⟩
    | some q =>
      obtain ⟨u, g1, g2, g3, g4, g5⟩ := meetL_spec (met := (rowL nx src met c).2) q h2
      refine ⟨t ++ u, ?_, g2, by simp [h3], by simp; omega, fun x hx => ?_, ?_⟩
      · show (meetL (rowL nx src met c).2 q).2 = _
        rw [g1, h1, List.append_assoc]
      · rcases List.mem_append.1 hx with hx | hx
        · obtain ⟨k, hk, e⟩ := h5 x hx
          exact ⟨k, by omega, e⟩
        · exact ⟨c, by omega, by rw [g4 x hx]; exact hq⟩
      · have h7 := h6.more u
        rw [← g1] at h7
        exact h7.snoc (.inr ⟨q, _, by rw [h3]; exact hq, g3, rfl⟩)
def statesL (nx : α → Nat → Option α) (K : Nat) : Nat → Nat → List α → List (List Int) → Option (List (List Int) × List α)
  | 0, _, _, _ => none
  | f + 1, n, met, tab =>
    match met[n]? with
    | none => some (tab, met)
    | some src => if 20000 < (rowL nx src met K).2.length then none else statesL nx K f (n + 1) (rowL nx src met K).2 (tab ++ [(rowL nx src met K).1])
def allL (nx : α → Nat → Option α) (K : Nat) (p0 : α) : Option (List (List Int) × List α) := statesL nx K 20002 0 [p0] []

theorem StOK.next {nx : α → Nat → Option α} {K n : Nat} {p0 : α} {met : List α} {tab : List (List Int)} (h : StOK nx K p0 n met tab) {src : α} (hs : met[n]? = some src) (hl : (rowL nx src met K).2.length ≤ 20000) :
    StOK nx K p0 (n + 1) (rowL nx src met K).2 (tab ++ [(rowL nx src met K).1]) := by
  obtain ⟨t, h1, h2, h3, h4, h5, h6⟩ := rowL_spec nx src met h.nd K
  have hlt := (List.getElem?_eq_some_iff.1 hs).1
  have up : ∀ (i : Nat) (p : α), met[i]? = some p → (rowL nx src met K).2[i]? = some p := fun i p hp => by
    rw [h1, List.getElem?_append_left (List.getElem?_eq_some_iff.1 hp).1]; exact hp
  refine ⟨h2, up 0 p0 h.h0, by simp [h.len], by rw [h1]; simp; omega, hl, fun i p row hp hr => ?_, fun q hq => ?_⟩
  · by_cases e : i < n
    · rw [List.getElem?_append_left (by rw [h.len]; exact e)] at hr
      have hi : met[i]? = some p := by
        rw [h1, List.getElem?_append_left (by omega)] at hp; exact hp
      obtain ⟨g1, g2⟩ := h.all i p row hi hr
      exact ⟨g1, by rw [h1]; exact g2.more t⟩
    · have e2 : i = n := by
        have := (List.getElem?_eq_some_iff.1 hr).1
        simp [h.len] at this; omega
      subst e2
      rw [up i src hs] at hp; injection hp with hp; subst hp
      rw [List.getElem?_append_right (by rw [h.len]; exact Nat.le_refl _), h.len, Nat.sub_self] at hr
      simp at hr; subst hr
      exact ⟨h3, h6⟩
  · have hm : ∀ x ∈ met, x ∈ (rowL nx src met K).2 := fun x hx => by rw [h1]; exact List.mem_append_left _ hx
    rw [h1] at hq
    rcases List.mem_append.1 hq with hq | hq
    · rcases h.come q hq with h7 | ⟨p, hp, k, hk, e⟩
      · exact .inl h7
      · exact .inr ⟨p, hm p hp, k, hk, e⟩
    · obtain ⟨k, hk, e⟩ := h5 q hq
      exact .inr ⟨src, hm src (List.mem_of_getElem? hs), k, hk, e⟩
theorem statesL_ok {nx : α → Nat → Option α} {K : Nat} {p0 : α} : ∀ (f n : Nat) (met : List α) (tab : List (List Int)), StOK nx K p0 n met tab → ∀ r, statesL nx K f n met tab = some r → StOK nx K p0 r.2.length r.2 r.1
  | 0, _, _, _, _, r, hr => by simp [statesL] at hr
  | f + 1, n, met, tab, h, r, hr => by
    rw [statesL] at hr
    cases hs : met[n]? with
    | none =>
      rw [hs] at hr
      injection hr with hr; subst hr
      have : n = met.length := by
        have := List.getElem?_eq_none_iff.1 hs
        have := h.le
        omega
      subst this
      exact h
    | some src =>
      rw [hs] at hr
      dsimp only at hr
      split at hr
      · cases hr
      · rename_i hl
        exact statesL_ok f (n + 1) _ _ (h.next hs (by omega)) r hr
theorem allL_ok {nx : α → Nat → Option α} {K : Nat} {p0 : α} {r : List (List Int) × List α} (h : allL nx K p0 = some r) : StOK nx K p0 r.2.length r.2 r.1 := statesL_ok _ _ _ _ (StOK.start nx K p0) r h
end

section
variable {α β : Type} [DecidableEq α] [DecidableEq β] {φ : α → β} {I : α → Prop} {nx : α → Nat → Option α} {nx' : β → Nat → Option β} {K : Nat}
theorem idxOf_map (hinj : ∀ a b, I a → I b → φ a = φ b → a = b) {met : List α} {p : α} (hm : ∀ q ∈ met, I q) (hp : I p) : (met.map φ).idxOf? (φ p) = met.idxOf? p := by
  induction met with
  | nil => rfl
  | cons a t ih =>
    have ha := hm a (List.mem_cons_self ..)
    rw [List.map_cons, List.idxOf?_cons, List.idxOf?_cons, ih (fun q hq => hm q (List.mem_cons_of_mem _ hq))]
    by_cases e : a = p
    · subst e; simp
    · have e2 : φ a ≠ φ p := fun h => e (hinj a p ha hp h)
      simp [e, e2]
theorem meetL_map (hinj : ∀ a b, I a → I b → φ a = φ b → a = b) {met : List α} {p : α} (hm : ∀ q ∈ met, I q) (hp : I p) : meetL (met.map φ) (φ p) = ((meetL met p).1, (meetL met p).2.map φ) := by
  unfold meetL
  rw [idxOf_map hinj hm hp]
  cases met.idxOf? p with
  | some i => rfl
  | none => simp
theorem meetL_inv {met : List α} {p : α} (hm : ∀ q ∈ met, I q) (hp : I p) : ∀ q ∈ (meetL met p).2, I q := by
  unfold meetL
  cases met.idxOf? p with
  | some i => exact hm
  | none =>
    intro q hq
    rcases List.mem_append.1 hq with hq | hq
    · exact hm q hq
    · simp at hq; subst hq; exact hp
/-- Two goings over by states that answer one another. -/
theorem rowL_map (hinj : ∀ a b, I a → I b → φ a = φ b → a = b) (hI : ∀ a c q, c < K → I a → nx a c = some q → I q) (hnx : ∀ a c, c < K → I a → nx' (φ a) c = (nx a c).map φ) {src : α} {met : List α} (hs : I src) (hm : ∀ q ∈ met, I q) :
    ∀ c, c ≤ K → rowL nx' (φ src) (met.map φ) c = ((rowL nx src met c).1, (rowL nx src met c).2.map φ) ∧ ∀ q ∈ (rowL nx src met c).2, I q
  | 0, _ => ⟨rfl, hm⟩
  | c + 1, hc => by
    obtain ⟨h1, h2⟩ := rowL_map hinj hI hnx hs hm c (by omega)
    rw [rowL, rowL, hnx src c (by omega) hs]
    cases hq : nx src c with
    | none => exact ⟨by rw [Option.map_none]; dsimp only; rw [h1], h2⟩
    | some q =>
      have hIq := hI src c q (by omega) hs hq
      refine ⟨?_, meetL_inv h2 hIq⟩
      rw [Option.map_some]
      dsimp only
      rw [h1]
      dsimp only
      rw [meetL_map hinj h2 hIq]
theorem statesL_map (hinj : ∀ a b, I a → I b → φ a = φ b → a = b) (hI : ∀ a c q, c < K → I a → nx a c = some q → I q) (hnx : ∀ a c, c < K → I a → nx' (φ a) c = (nx a c).map φ) :
    ∀ (f n : Nat) (met : List α) (tab : List (List Int)), (∀ q ∈ met, I q) → statesL nx' K f n (met.map φ) tab = (statesL nx K f n met tab).map fun r => (r.1, r.2.map φ)
  | 0, _, _, _, _ => rfl
  | f + 1, n, met, tab, hm => by
    rw [statesL, statesL, List.getElem?_map]
    cases hs : met[n]? with
    | none => rfl
    | some src =>
      obtain ⟨h1, h2⟩ := rowL_map hinj hI hnx (hm src (List.mem_of_getElem? hs)) hm K (Nat.le_refl _)
      rw [Option.map_some]
      dsimp only
      rw [h1]
      dsimp only
      rw [List.length_map]
      split
      · rfl
      · exact statesL_map hinj hI hnx f (n + 1) _ _ h2
end

end Go.Proofs.YtgcmedkaadagmaaDoor
