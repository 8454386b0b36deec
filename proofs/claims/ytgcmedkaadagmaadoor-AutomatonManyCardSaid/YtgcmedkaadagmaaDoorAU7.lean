/- Plain words: the document's way to find out whether an automaton does what rules say: all that may come together is gone over. -/
import Derived.Test.YtgcmedkaadagmaaDoorAU6
namespace Go.Proofs.YtgcmedkaadagmaaDoor

def runS {σ : Type} (step : σ → Int → σ) : σ → List Int → σ
  | s, [] => s
  | s, g :: w => runS step (step s g) w
theorem runS_snoc {σ : Type} (step : σ → Int → σ) (g : Int) : ∀ (w : List Int) (s : σ), runS step s (w ++ [g]) = step (runS step s w) g
  | [], _ => rfl
  | _ :: w, _ => runS_snoc step g w _
theorem runB_snoc {σ : Type} (step : σ → Int → σ) (out : σ → Nat) (g : Int) : ∀ (w : List Int) (s : σ), runB step out s (w ++ [g]) = runB step out s w ||| out (step (runS step s w) g)
  | [], _ => rfl
  | h :: w, s => by rw [List.cons_append, runB, runB_snoc step out g w, runB, runS, Nat.or_assoc]
section
variable {σ : Type} (step : σ → Int → σ) (due bit : σ → Nat) (gs : List Int)
def stepT (x : σ × Nat) (g : Int) : σ × Nat := (step x.1 g, x.2 ||| due (step x.1 g))
/-- So far i pairs were gone over, and of the next one the glyphs dn. -/
structure DoI (x0 : σ) (all : List (σ × Nat)) (i : Nat) (dn : List Int) : Prop where
  h0 : all[0]? = some (x0, due x0)
  come : ∀ x ∈ all, ∃ w, (∀ g ∈ w, g ∈ gs) ∧ x = (runS step x0 w, runB step due x0 w) ∧ runB step bit x0 w = runB step due x0 w
  past : ∀ (j : Nat) (x : σ × Nat), all[j]? = some x → j < i → ∀ g ∈ gs, stepT step due x g ∈ all ∧ x.2 ||| bit (step x.1 g) = (stepT step due x g).2
  now : ∀ (x : σ × Nat), all[i]? = some x → ∀ g ∈ dn, stepT step due x g ∈ all ∧ x.2 ||| bit (step x.1 g) = (stepT step due x g).2
  nd : all.Nodup
variable {step due bit gs} {x0 : σ} {all : List (σ × Nat)} {i : Nat} {dn : List Int}
theorem DoI.start (h : due x0 = bit x0) : DoI step due bit gs x0 [(x0, due x0)] 0 [] :=
  ⟨rfl, fun x hx => ⟨[], by simp, by simpa [runS, runB] using hx, h.symm⟩, fun j x _ hj => absurd hj (by omega), fun x _ g hg => absurd hg (by simp), by simp⟩
theorem DoI.bad (h : DoI step due bit gs x0 all i dn) {x : σ × Nat} (hx : all[i]? = some x) {g : Int} (hg : g ∈ gs) (hb : x.2 ||| bit (step x.1 g) ≠ (stepT step due x g).2) : ¬ Agr step due bit gs x0 := fun ha => by
  obtain ⟨w, hw, e, e2⟩ := h.come x (List.mem_of_getElem? hx)
  have h1 := ha (w ++ [g]) (fun y hy => by
    rcases List.mem_append.1 hy with hy | hy
    · exact hw y hy
    · rw [List.mem_singleton] at hy; rw [hy]; exact hg)
  rw [runB_snoc, runB_snoc, e2] at h1
  apply hb
  rw [e]
  exact h1.symm
theorem DoI.known (h : DoI step due bit gs x0 all i dn) {x : σ × Nat} (hx : all[i]? = some x) {g : Int} (hb : x.2 ||| bit (step x.1 g) = (stepT step due x g).2) (hk : stepT step due x g ∈ all) : DoI step due bit gs x0 all i (dn ++ [g]) :=
  ⟨h.h0, h.come, h.past, fun y hy k hk2 => by
    rw [hx] at hy; injection hy with hy; subst hy
    rcases List.mem_append.1 hk2 with hk2 | hk2
    · exact h.now x hx k hk2
    · rw [List.mem_singleton] at hk2; subst hk2; exact ⟨hk, hb⟩, h.nd⟩
theorem DoI.push (h : DoI step due bit gs x0 all i dn) {x : σ × Nat} (hx : all[i]? = some x) {g : Int} (hg : g ∈ gs) (hb : x.2 ||| bit (step x.1 g) = (stepT step due x g).2) (hk : stepT step due x g ∉ all) : DoI step due bit gs x0 (all ++ [stepT step due x g]) i (dn ++ [g]) := by
  have hi := (List.getElem?_eq_some_iff.1 hx).1
  have at' : ∀ (j : Nat) (y : σ × Nat), j ≤ i → (all ++ [stepT step due x g])[j]? = some y → all[j]? = some y := fun j y hj hy => by
    rwa [List.getElem?_append_left (by omega)] at hy
  refine ⟨by rw [List.getElem?_append_left (by omega)]; exact h.h0, fun y hy => ?_, fun j y hy hj k hk2 => ?_, fun y hy k hk2 => ?_, ?_⟩
  · rcases List.mem_append.1 hy with hy | hy
    · exact h.come y hy
    · rw [List.mem_singleton] at hy; subst hy
      obtain ⟨w, hw, e, e2⟩ := h.come x (List.mem_of_getElem? hx)
      refine ⟨w ++ [g], fun y hy => ?_, ?_, ?_⟩
      · rcases List.mem_append.1 hy with hy | hy
        · exact hw y hy
        · rw [List.mem_singleton] at hy; rw [hy]; exact hg
      · rw [runS_snoc, runB_snoc]; unfold stepT; rw [e]
      · rw [runB_snoc, runB_snoc, e2]
        rw [e] at hb
        exact hb
  · obtain ⟨h1, h2⟩ := h.past j y (at' j y (by omega) hy) hj k hk2
    exact ⟨List.mem_append_left _ h1, h2⟩
  · have hy2 := at' i y (Nat.le_refl _) hy
    clear hy
    rcases List.mem_append.1 hk2 with hk2 | hk2
    · obtain ⟨h1, h2⟩ := h.now y hy2 k hk2
      exact ⟨List.mem_append_left _ h1, h2⟩
    · rw [List.mem_singleton] at hk2; subst hk2
      rw [hx] at hy2; injection hy2 with hy2; subst hy2
      exact ⟨List.mem_append_right _ (List.mem_singleton.2 rfl), hb⟩
  · rw [List.nodup_append]
    refine ⟨h.nd, by simp, fun a ha b hb2 => ?_⟩
    rw [List.mem_singleton] at hb2; subst hb2
    exact fun e => hk (e ▸ ha)
theorem DoI.next (h : DoI step due bit gs x0 all i dn) (hd : ∀ g ∈ gs, g ∈ dn) : DoI step due bit gs x0 all (i + 1) [] :=
  ⟨h.h0, h.come, fun j x hx hj g hg => by
    by_cases e : j = i
    · subst e; exact h.now x hx g (hd g hg)
    · exact h.past j x hx (by omega) g hg, fun _ _ g hg => absurd hg (by simp), h.nd⟩
theorem DoI.done (h : DoI step due bit gs x0 all i dn) (hi : all.length ≤ i) (h0 : due x0 = bit x0) : Agr step due bit gs x0 := by
  have key : ∀ (w : List Int) (x : σ × Nat) (a : Nat), (∀ g ∈ w, g ∈ gs) → x ∈ all → x.2 ||| runB step due x.1 w = a → x.2 ||| runB step bit x.1 w = a ∨ x.2 ||| due x.1 ≠ x.2 ||| bit x.1 := by
    intro w
    induction w with
    | nil =>
      intro x a _ hx e
      rw [runB] at e ⊢
      by_cases he : x.2 ||| due x.1 = x.2 ||| bit x.1
      · left; rw [← he]; exact e
      · exact .inr he
    | cons g w ih =>
      intro x a hw hx e
      by_cases he : x.2 ||| due x.1 = x.2 ||| bit x.1
      · left
        obtain ⟨j, hj⟩ := List.mem_iff_getElem?.1 hx
        obtain ⟨h1, h2⟩ := h.past j x hj (Nat.lt_of_lt_of_le (List.getElem?_eq_some_iff.1 hj).1 hi) g (hw g (List.mem_cons_self ..))
        have hxw : x.2 ||| due x.1 = x.2 := by
          obtain ⟨v, _, e3, _⟩ := h.come x hx
          rw [e3]
          have last : ∀ (v : List Int) (s : σ), runB step due s v ||| due (runS step s v) = runB step due s v := by
            intro v
            induction v with
            | nil => intro s; rw [runB, runS, Nat.or_self]
            | cons k v ih2 => intro s; rw [runB, runS, Nat.or_assoc, ih2]
          exact last v x0
        have e4 : (stepT step due x g).2 = x.2 ||| due (step x.1 g) := rfl
        have ih1 := ih (stepT step due x g) a (fun y hy => hw y (List.mem_cons_of_mem _ hy)) h1 (by
          have e5 : due (step x.1 g) ||| runB step due (step x.1 g) w = runB step due (step x.1 g) w := by
            cases w with
            | nil => rw [runB, Nat.or_self]
            | cons k w => rw [runB, ← Nat.or_assoc, Nat.or_self]
          show x.2 ||| due (step x.1 g) ||| runB step due (step x.1 g) w = a
          rw [Nat.or_assoc, e5]
          rw [runB, ← Nat.or_assoc, hxw] at e
          exact e)
        have e6 : bit (step x.1 g) ||| runB step bit (step x.1 g) w = runB step bit (step x.1 g) w := by
          cases w with
          | nil => rw [runB, Nat.or_self]
          | cons k w => rw [runB, ← Nat.or_assoc, Nat.or_self]
        rw [runB, ← Nat.or_assoc, ← he, hxw]
        rcases ih1 with h3 | h3
        · have h4 : x.2 ||| due (step x.1 g) ||| runB step bit (step x.1 g) w = a := h3
          have h5 : x.2 ||| bit (step x.1 g) = x.2 ||| due (step x.1 g) := h2
          rw [← h5, Nat.or_assoc, e6] at h4
          exact h4
        · exfalso
          apply h3
          show x.2 ||| due (step x.1 g) ||| due (step x.1 g) = x.2 ||| due (step x.1 g) ||| bit (step x.1 g)
          have h5 : x.2 ||| bit (step x.1 g) = x.2 ||| due (step x.1 g) := h2
          rw [Nat.or_assoc, Nat.or_self, ← h5, Nat.or_assoc, Nat.or_self]
      · exact .inr he
  intro w hw
  have hm : (x0, due x0) ∈ all := List.mem_of_getElem? h.h0
  rcases key w (x0, due x0) _ hw hm rfl with h1 | h1
  · have e : ∀ (out : σ → Nat) (v : List Int), out x0 ||| runB step out x0 v = runB step out x0 v := fun out v => by
      cases v with
      | nil => rw [runB, Nat.or_self]
      | cons k v => rw [runB, ← Nat.or_assoc, Nat.or_self]
    have h2 : due x0 ||| runB step bit x0 w = due x0 ||| runB step due x0 w := h1
    rw [e due w, h0, e bit w] at h2
    exact h2.symm
  · exact absurd (by show due x0 ||| due x0 = due x0 ||| bit x0; rw [h0]) h1
end
theorem nodup_len {α : Type} [DecidableEq α] : ∀ {l m : List α}, l.Nodup → (∀ x ∈ l, x ∈ m) → l.length ≤ m.length
  | [], _, _, _ => Nat.zero_le _
  | a :: l, m, hn, hs => by
    have ha := hs a (List.mem_cons_self ..)
    rw [List.nodup_cons] at hn
    have h1 := nodup_len (l := l) (m := m.erase a) hn.2 (fun x hx => (List.mem_erase_of_ne (fun e => hn.1 (by rw [← e]; exact hx))).2 (hs x (List.mem_cons_of_mem _ hx)))
    rw [List.length_erase_of_mem ha] at h1
    have := List.length_pos_of_mem ha
    rw [List.length_cons]; omega
/-- All triples that may come. -/
def allT (met : List (Nat × Nat)) (k N : Nat) : List (PS × Nat) := (allQ met k).flatMap fun x => (List.range N).map fun b => (x, b)
theorem allT_len (met : List (Nat × Nat)) (k N : Nat) : (allT met k N).length = (met.length + 1) * (k + 2) * N := by
  unfold allT
  rw [List.length_flatMap]
  simp only [List.length_map, List.length_range]
  rw [sum_const, allQ_len]
theorem allT_mem {met : List (Nat × Nat)} {k N : Nat} {x : PS × Nat} : x ∈ allT met k N ↔ x.1 ∈ allQ met k ∧ x.2 < N := by
  unfold allT
  rw [List.mem_flatMap]
  constructor
  · rintro ⟨y, hy, h⟩
    obtain ⟨b, hb, rfl⟩ := List.mem_map.1 h
    exact ⟨hy, List.mem_range.1 hb⟩
  · rintro ⟨h1, h2⟩
    exact ⟨x.1, h1, List.mem_map.2 ⟨x.2, List.mem_range.2 h2, rfl⟩⟩

end Go.Proofs.YtgcmedkaadagmaaDoor
