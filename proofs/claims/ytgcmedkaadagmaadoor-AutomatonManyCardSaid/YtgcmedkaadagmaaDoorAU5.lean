/- Plain words: rules and an automaton at once; glyphs, one of each kind; when an automaton does what rules say. -/
import Derived.Test.YtgcmedkaadagmaaDoorAU4
namespace Go.Proofs.YtgcmedkaadagmaaDoor

abbrev PS := (Nat × Nat) × Int
def stepQ (rows : List (List (List Int))) (cls acls : List Int) (tab : List (List Int)) (x : PS) (g : Int) : PS := (stepP rows cls x.1 g, stepA acls tab x.2 g)
def dueQ (rows : List (List (List Int))) (x : PS) : Nat := endsP rows x.1
def bitQ (ends : List Nat) (x : PS) : Nat := bitsA ends x.2
def deadQ (x : PS) : Bool := x.1.2 == 0 && x.2 == -1
section
variable {rows : List (List (List Int))} {cls acls : List Int} {tab : List (List Int)} {ends : List Nat}
theorem runQ_due (w : List Int) (x : PS) : runB (stepQ rows cls acls tab) (dueQ rows) x w = runB (stepP rows cls) (endsP rows) x.1 w := runB_hom Prod.fst (fun _ _ => rfl) (fun _ => rfl) w x
theorem runQ_bit (w : List Int) (x : PS) : runB (stepQ rows cls acls tab) (bitQ ends) x w = runB (stepA acls tab) (bitsA ends) x.2 w := runB_hom Prod.snd (fun _ _ => rfl) (fun _ => rfl) w x
theorem deadQ_run {x : PS} (h : deadQ x = true) (w : List Int) : runB (stepQ rows cls acls tab) (dueQ rows) x w = 0 ∧ runB (stepQ rows cls acls tab) (bitQ ends) x w = 0 := by
  unfold deadQ at h
  obtain ⟨⟨m, r⟩, s⟩ := x
  simp only [Bool.and_eq_true, beq_iff_eq] at h
  obtain ⟨rfl, rfl⟩ := h
  rw [runQ_due, runQ_bit]
  refine ⟨?_, runB_zero bitsA_ended stepA_ended w⟩
  cases w with
  | nil => exact endsP_dead rows m
  | cons g w => rw [runB, endsP_dead, show stepP rows cls (m, 0) g = (0, 0) from behindP_dead _ _ _ _, runB_zero (endsP_dead rows 0) (stepP_dead rows cls)]; rfl
end
/-- All glyphs of a font. -/
def glyL (n : Nat) : List Int := (List.range n).map fun (i : Nat) => (i : Int)
theorem glyL_mem {n : Nat} {g : Int} : g ∈ glyL n ↔ 0 ≤ g ∧ g < (n : Int) := by
  unfold glyL
  rw [List.mem_map]
  constructor
  · rintro ⟨i, hi, rfl⟩; rw [List.mem_range] at hi; omega
  · rintro ⟨h1, h2⟩; exact ⟨g.toNat, by rw [List.mem_range]; omega, by omega⟩
/-- An automaton's half does what the rules say. -/
def HalfOK (rows : List (List (List Int))) (cls : List Int) (p0 : Nat × Nat) (acls : List Int) (tab : List (List Int)) (ends : List Nat) (n : Nat) : Prop := Agr (stepQ rows cls acls tab) (dueQ rows) (bitQ ends) (glyL n) (p0, 0)
theorem halfOK_iff {rows : List (List (List Int))} {cls : List Int} {p0 : Nat × Nat} {acls : List Int} {tab : List (List Int)} {ends : List Nat} {n : Nat} :
    HalfOK rows cls p0 acls tab ends n ↔ ∀ w, (∀ g ∈ w, 0 ≤ g ∧ g < (n : Int)) → runB (stepP rows cls) (endsP rows) p0 w = runB (stepA acls tab) (bitsA ends) 0 w := by
  unfold HalfOK Agr
  constructor
  · intro h w hw
    have := h w (fun g hg => glyL_mem.2 (hw g hg))
    rwa [runQ_due, runQ_bit] at this
  · intro h w hw
    rw [runQ_due, runQ_bit]
    exact h w (fun g hg => glyL_mem.1 (hw g hg))
/-- What was built does. -/
theorem halfOK_built {rows : List (List (List Int))} {cls : List Int} {K : Nat} {p0 : Nat × Nat} {met : List (Nat × Nat)} {tab : List (List Int)} (hst : StOK (nxP rows cls) K p0 met.length met tab) (hG : GlyOK cls K) : HalfOK rows cls p0 cls tab (met.map (endsP rows)) cls.length :=
  halfOK_iff.2 fun w hw => (built_run hst hG w hw 0 p0 hst.h0).symm

/-- One of each kind, in order. -/
def apartL {κ : Type} [DecidableEq κ] (kd : Nat → κ) : Nat → List Nat
  | 0 => []
  | n + 1 => if kd n ∈ (apartL kd n).map kd then apartL kd n else apartL kd n ++ [n]
section
variable {κ : Type} [DecidableEq κ] (kd : Nat → κ)
theorem apart_lt : ∀ (n j : Nat), j ∈ apartL kd n → j < n
  | 0, j, h => by simp [apartL] at h
  | n + 1, j, h => by
    rw [apartL] at h
    split at h
    · have := apart_lt n j h; omega
    · rcases List.mem_append.1 h with h | h
      · have := apart_lt n j h; omega
      · simp at h; omega
theorem apart_rep : ∀ (n i : Nat), i < n → ∃ j ∈ apartL kd n, kd j = kd i
  | 0, _, h => absurd h (by omega)
  | n + 1, i, h => by
    rw [apartL]
    by_cases e : i = n
    · subst e
      split
      · rename_i hm
        obtain ⟨j, h1, h2⟩ := List.mem_map.1 hm
        exact ⟨j, h1, h2⟩
      · exact ⟨i, List.mem_append_right _ (List.mem_singleton.2 rfl), rfl⟩
    · obtain ⟨j, h1, h2⟩ := apart_rep n i (by omega)
      split
      · exact ⟨j, h1, h2⟩
      · exact ⟨j, List.mem_append_left _ h1, h2⟩
theorem apart_len : ∀ n, (apartL kd n).length ≤ n
  | 0 => Nat.le_refl _
  | n + 1 => by
    have := apart_len n
    rw [apartL]; split
    · omega
    · simp; omega
theorem apart_nodup : ∀ n, ((apartL kd n).map kd).Nodup
  | 0 => by simp [apartL]
  | n + 1 => by
    rw [apartL]
    split
    · exact apart_nodup n
    · rename_i h
      rw [List.map_append, List.nodup_append]
      refine ⟨apart_nodup n, by simp, fun a ha b hb => ?_⟩
      simp at hb; subst hb
      exact fun e => h (e ▸ ha)
end
theorem runB_rep {σ : Type} {step : σ → Int → σ} {gs gs' : List Int} (h : ∀ g ∈ gs', ∃ g2 ∈ gs, ∀ x, step x g = step x g2) : ∀ (w : List Int), (∀ g ∈ w, g ∈ gs') → ∃ w2 : List Int, (∀ g ∈ w2, g ∈ gs) ∧ ∀ (out : σ → Nat) (x : σ), runB step out x w = runB step out x w2
  | [], _ => ⟨[], by simp, fun _ _ => rfl⟩
  | g :: w, hw => by
    obtain ⟨g2, hg2, e⟩ := h g (hw g (List.mem_cons_self ..))
    obtain ⟨w2, h1, h2⟩ := runB_rep h w (fun x hx => hw x (List.mem_cons_of_mem _ hx))
    refine ⟨g2 :: w2, fun x hx => ?_, fun out x => by rw [runB, runB, e x, h2]⟩
    rcases List.mem_cons.1 hx with rfl | hx
    · exact hg2
    · exact h1 x hx
theorem agr_rep {σ : Type} {step : σ → Int → σ} {due bit : σ → Nat} {gs gs' : List Int} (hs : ∀ g ∈ gs, g ∈ gs') (h : ∀ g ∈ gs', ∃ g2 ∈ gs, ∀ x, step x g = step x g2) (x : σ) : Agr step due bit gs x ↔ Agr step due bit gs' x := by
  constructor
  · intro ha w hw
    obtain ⟨w2, h1, h2⟩ := runB_rep h w hw
    rw [h2, h2]; exact ha w2 h1
  · intro ha w hw
    exact ha w (fun g hg => hs g (hw g hg))
/-- A glyph's kind. -/
def kindG (cls acls : List Int) (i : Nat) : Int × Int × Bool := (cls.getD i 0, acls.getD i 0, decide (i < acls.length))
theorem stepQ_kind {rows : List (List (List Int))} {cls acls : List Int} {tab : List (List Int)} {i j : Nat} (h : kindG cls acls i = kindG cls acls j) (x : PS) : stepQ rows cls acls tab x (i : Int) = stepQ rows cls acls tab x (j : Int) := by
  unfold kindG at h
  simp only [Prod.mk.injEq, decide_eq_decide] at h
  obtain ⟨h1, h2, h3⟩ := h
  unfold stepQ stepP clsAt
  rw [Int.toNat_natCast, Int.toNat_natCast, h1]
  congr 1
  unfold stepA
  rw [Int.toNat_natCast, Int.toNat_natCast, h2]
  have e : (x.2 < 0 ∨ (tab.length : Int) ≤ x.2 ∨ (i : Int) < 0 ∨ (acls.length : Int) ≤ (i : Int)) ↔ (x.2 < 0 ∨ (tab.length : Int) ≤ x.2 ∨ (j : Int) < 0 ∨ (acls.length : Int) ≤ (j : Int)) := by
    by_cases hi : i < acls.length
    · have hj := h3.1 hi
      omega
    · have hj : ¬ j < acls.length := fun e => hi (h3.2 e)
      omega
  simp only [e]
def repL (cls acls : List Int) : List Int := (apartL (kindG cls acls) cls.length).map fun (i : Nat) => (i : Int)
/-- It is enough to go on with one glyph of each kind. -/
theorem halfOK_rep {rows : List (List (List Int))} {cls : List Int} {p0 : Nat × Nat} {acls : List Int} {tab : List (List Int)} {ends : List Nat} : Agr (stepQ rows cls acls tab) (dueQ rows) (bitQ ends) (repL cls acls) (p0, 0) ↔ HalfOK rows cls p0 acls tab ends cls.length := by
  refine agr_rep (fun g hg => ?_) (fun g hg => ?_) _
  · obtain ⟨i, hi, rfl⟩ := List.mem_map.1 hg
    have := apart_lt _ _ _ hi
    exact glyL_mem.2 (by omega)
  · obtain ⟨h0, h1⟩ := glyL_mem.1 hg
    obtain ⟨j, hj, e⟩ := apart_rep (kindG cls acls) cls.length g.toNat (by omega)
    refine ⟨(j : Int), List.mem_map.2 ⟨j, hj, rfl⟩, fun x => ?_⟩
    have := stepQ_kind (rows := rows) (tab := tab) e x
    rw [this, Int.toNat_of_nonneg h0]
/-- All that may be come to. -/
def allQ (met : List (Nat × Nat)) (k : Nat) : List PS := ((0, 0) :: met).flatMap fun p => (List.range (k + 2)).map fun (j : Nat) => (p, (j : Int) - 1)
theorem sum_const {α : Type} (c : Nat) : ∀ l : List α, (l.map fun _ => c).sum = l.length * c
  | [] => by simp
  | a :: l => by rw [List.map_cons, List.sum_cons, sum_const c l, List.length_cons, Nat.add_mul]; omega
theorem allQ_len (met : List (Nat × Nat)) (k : Nat) : (allQ met k).length = (met.length + 1) * (k + 2) := by
  unfold allQ
  rw [List.length_flatMap]
  simp only [List.length_map, List.length_range]
  rw [sum_const]; rfl
theorem allQ_mem {met : List (Nat × Nat)} {k : Nat} {x : PS} : x ∈ allQ met k ↔ (x.1 = (0, 0) ∨ x.1 ∈ met) ∧ -1 ≤ x.2 ∧ x.2 ≤ (k : Int) := by
  unfold allQ
  rw [List.mem_flatMap]
  constructor
  · rintro ⟨p, hp, h⟩
    obtain ⟨j, hj, rfl⟩ := List.mem_map.1 h
    rw [List.mem_range] at hj
    refine ⟨?_, by dsimp only; omega, by dsimp only; omega⟩
    rcases List.mem_cons.1 hp with rfl | hp
    · exact .inl rfl
    · exact .inr hp
  · rintro ⟨hp, h1, h2⟩
    refine ⟨x.1, ?_, List.mem_map.2 ⟨(x.2 + 1).toNat, by rw [List.mem_range]; omega, ?_⟩⟩
    · rcases hp with hp | hp
      · rw [hp]; exact List.mem_cons_self ..
      · exact List.mem_cons_of_mem _ hp
    · obtain ⟨p, s⟩ := x
      dsimp only at h1 h2 ⊢
      rw [show (((s + 1).toNat : Nat) : Int) - 1 = s by omega]
theorem stepA_ge {cls : List Int} {rows : List (List Int)} (s g : Int) : -1 ≤ stepA cls rows s g := by
  unfold stepA
  split
  · omega
  · dsimp only
    split
    · omega
    · split <;> omega
section
variable {rows : List (List (List Int))} {cls : List Int} {K : Nat} {p0 : Nat × Nat} {met : List (Nat × Nat)} {tab : List (List Int)} {acls : List Int} {atab : List (List Int)}
theorem allQ_step (hst : StOK (nxP rows cls) K p0 met.length met tab) (hG : GlyOK cls K) {g : Int} (h0 : 0 ≤ g) (h1 : g < (cls.length : Int)) {x : PS} (hx : x ∈ allQ met atab.length) : stepQ rows cls acls atab x g ∈ allQ met atab.length := by
  obtain ⟨hp, h2, h3⟩ := allQ_mem.1 hx
  refine allQ_mem.2 ⟨?_, stepA_ge _ _, ?_⟩
  · show stepP rows cls x.1 g = (0, 0) ∨ stepP rows cls x.1 g ∈ met
    rcases hp with hp | hp
    · left; rw [hp]; exact stepP_dead _ _ _
    · obtain ⟨i, hi⟩ := List.mem_iff_getElem?.1 hp
      rcases built_step hst hG h0 h1 hi with ⟨e, _⟩ | ⟨j, e, _⟩
      · exact .inl e
      · exact .inr (List.mem_of_getElem? e)
  · have := stepA_lt (cls := acls) (rows := atab) x.2 g
    show stepA acls atab x.2 g ≤ _
    omega
theorem allQ_start (hst : StOK (nxP rows cls) K p0 met.length met tab) : ((p0, 0) : PS) ∈ allQ met atab.length := allQ_mem.2 ⟨.inr (List.mem_of_getElem? hst.h0), by dsimp only; omega, by dsimp only; omega⟩
end

end Go.Proofs.YtgcmedkaadagmaaDoor
