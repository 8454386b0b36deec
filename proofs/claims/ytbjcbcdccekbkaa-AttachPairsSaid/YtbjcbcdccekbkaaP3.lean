/- Plain laws of pairs: what they keep; higher runs. And all of attach's kinds at once. -/
import Derived.Test.YtbjcbcdccekbkaaP2
namespace Go.Proofs.Ytbjcbcdccekbkaa

theorem doL_pair {w : Int → Int} {F : Fnt} {d : Nat} {lk : Lk} {r : Rul} {ps : List Nat} {run : List Itm} (hk : lk.kind = 6) : doL w F d lk r ps run = pairL w (ps.headD 0) r.x run := by
  unfold doL; simp [hk]
theorem pairL_len (w : Int → Int) (k : Nat) (x : Int) (run : List Itm) : (pairL w k x run).length = run.length := by simp [pairL]
theorem pairL_at (w : Int → Int) (k : Nat) (x : Int) (run : List Itm) {i : Nat} (hi : i < run.length) : itAt (pairL w k x run) i = if k = i then { itAt run i with a := w ((itAt run i).a + x) } else itAt run i := by
  unfold itAt pairL
  rw [List.getD_eq_getElem?_getD, List.getD_eq_getElem?_getD, List.getElem?_modify, List.getElem?_eq_getElem hi]
  rfl
theorem pairL_key (w : Int → Int) (k : Nat) (x : Int) (run : List Itm) {i : Nat} (hi : i < run.length) : (itAt (pairL w k x run) i).g = (itAt run i).g ∧ (itAt (pairL w k x run) i).c = (itAt run i).c ∧ (itAt (pairL w k x run) i).f = (itAt run i).f ∧ (itAt (pairL w k x run) i).x = (itAt run i).x ∧ (itAt (pairL w k x run) i).y = (itAt run i).y := by
  rw [pairL_at w k x run hi]; split <;> exact ⟨rfl, rfl, rfl, rfl, rfl⟩
theorem on_keep {w : Int → Int} {F : Fnt} {lk : Lk} (hk : lk.kind = 6) (forms : List Int) (fuel : Nat) : ∀ (run : List Itm) (k : Nat), (onL w F lk forms fuel run k).length = run.length ∧ ∀ i, i < run.length → (itAt (onL w F lk forms fuel run k) i).g = (itAt run i).g ∧ (itAt (onL w F lk forms fuel run k) i).c = (itAt run i).c ∧ (itAt (onL w F lk forms fuel run k) i).f = (itAt run i).f := by
  induction fuel with
  | zero => intro run k; exact ⟨rfl, fun _ _ => ⟨rfl, rfl, rfl⟩⟩
  | succ fuel ih =>
    intro run k
    rw [onL]
    split
    · split
      · exact ih run (k + 1)
      · rename_i n ps _
        dsimp only
        rw [doL_pair hk]
        obtain ⟨h1, h2⟩ := ih (pairL w (ps.headD 0) (lk.rules.getD n default).x run) (nextL lk ps k run.length (pairL w (ps.headD 0) (lk.rules.getD n default).x run).length)
        rw [pairL_len] at h1 h2
        rw [pairL_len]
        refine ⟨h1, fun i hi => ?_⟩
        obtain ⟨a, b, c⟩ := h2 i hi
        obtain ⟨a', b', c', _⟩ := pairL_key w (ps.headD 0) (lk.rules.getD n default).x run hi
        exact ⟨a.trans a', b.trans b', c.trans c'⟩
    · exact ⟨rfl, fun _ _ => ⟨rfl, rfl, rfl⟩⟩

theorem inSets_congr {r s : List Itm} (h : ∀ i, gAt r i = gAt s i) (sets : List (List Int)) (ps : List Nat) : inSets r sets ps = inSets s sets ps := by
  induction sets generalizing ps with
  | nil => cases ps <;> rfl
  | cons a t ih =>
    cases ps with
    | nil => rfl
    | cons p ps => unfold inSets; rw [h p, ih ps]
theorem matchL_congr {F : Fnt} {lk : Lk} {r s : List Itm} (hl : r.length = s.length) (hg : ∀ i, gAt r i = gAt s i) (hf : ∀ i, fAt r i = fAt s i) (k : Int) (forms : List Int) : matchL F lk r k forms = matchL F lk s k forms := by
  have e1 : seenB F lk.ign r = seenB F lk.ign s := by funext i; unfold seenB; rw [hg]
  have e2 : ∀ r' fo ba, fits r r' fo ba = fits s r' fo ba := fun r' fo ba => by unfold fits; rw [inSets_congr hg, inSets_congr hg, inSets_congr hg]
  unfold matchL begL foreL backL
  simp only [e1, e2, hl, hf]
theorem pairL_up {w : Int → Int} (d : Int) (k : Nat) (x : Int) (run : List Itm) : pairL w k x (upR w d run) = upR w d (pairL w k x run) := by
  refine run_ext (by simp [pairL_len, upR_len]) fun j hj => ?_
  rw [pairL_len, upR_len] at hj
  rw [pairL_at w k x _ (by rw [upR_len]; exact hj), upR_at hj, upR_at (run := pairL w k x run) (by rw [pairL_len]; exact hj), pairL_at w k x run hj]
  split <;> rfl
theorem on_up {w : Int → Int} {F : Fnt} {lk : Lk} (hk : lk.kind = 6) (d : Int) (forms : List Int) (fuel : Nat) : ∀ (run : List Itm) (k : Nat), onL w F lk forms fuel (upR w d run) k = upR w d (onL w F lk forms fuel run k) := by
  induction fuel with
  | zero => intro run k; rfl
  | succ fuel ih =>
    intro run k
    rw [onL, onL, upR_len, matchL_congr (upR_len w d run) (upR_g w d run) (upR_f w d run)]
    split
    · split
      · exact ih run (k + 1)
      · rename_i n ps _
        dsimp only
        rw [doL_pair hk, doL_pair hk, pairL_up, upR_len, ih]
    · rfl

/-- What Apply does: as the lookup's kind says. -/
def attachAll (w : Int → Int) (F : Fnt) (n : Int) (run : List Itm) : List Itm :=
  match lkAt F n with
  | none => run
  | some lk => attachL w F n lk.kind run
theorem applyL_six {w : Int → Int} {F : Fnt} {n : Int} {lk : Lk} (h : lkAt F n = some lk) (hk : lk.kind = 6) (run : List Itm) (forms : List Int) : applyL w F n run forms = onL w F lk forms run.length run 0 := by
  unfold applyL; rw [h]; dsimp only; rw [if_neg (by omega), if_neg (by omega)]
theorem attachL_none {w : Int → Int} {F : Fnt} {n : Int} (h : lkAt F n = none) (k : Int) (run : List Itm) : attachL w F n k run = run := by unfold attachL; rw [h]
theorem attachL_other {w : Int → Int} {F : Fnt} {n : Int} {lk : Lk} (h : lkAt F n = some lk) {k : Int} (hk : lk.kind ≠ k) (run : List Itm) : attachL w F n k run = run := by
  unfold attachL; rw [h]; dsimp only; rw [if_neg hk]
theorem attachL_six {w : Int → Int} {F : Fnt} {n : Int} {lk : Lk} (h : lkAt F n = some lk) (hk : lk.kind = 6) (run : List Itm) : attachL w F n 6 run = onL w F lk [] run.length run 0 := by
  unfold attachL; rw [h]; dsimp only; rw [if_pos hk, if_pos rfl, applyL_six h hk]
theorem attachL_seven {w : Int → Int} {F : Fnt} {n : Int} {lk : Lk} (h : lkAt F n = some lk) (hk : lk.kind = 7) (run : List Itm) : attachL w F n 7 run = cursL w F lk.ign run := by
  unfold attachL; rw [h]; dsimp only; rw [if_pos hk, if_neg (by decide), if_pos rfl]
theorem attachL_eight {w : Int → Int} {F : Fnt} {n : Int} {lk : Lk} (h : lkAt F n = some lk) (hk : lk.kind = 8) (run : List Itm) : attachL w F n 8 run = marksL w F lk.ign run := by
  unfold attachL; rw [h]; dsimp only; rw [if_pos hk, if_neg (by decide), if_neg (by decide), if_pos rfl]
theorem attachL_rest {w : Int → Int} {F : Fnt} {n k : Int} (h6 : k ≠ 6) (h7 : k ≠ 7) (h8 : k ≠ 8) (run : List Itm) : attachL w F n k run = run := by
  unfold attachL; split
  · rfl
  · rw [if_neg h6, if_neg h7, if_neg h8]; split <;> rfl

/-- Nothing but places and advances changes. -/
def SameKey (r s : List Itm) : Prop := r.length = s.length ∧ ∀ i, i < s.length → (itAt r i).g = (itAt s i).g ∧ (itAt r i).c = (itAt s i).c ∧ (itAt r i).f = (itAt s i).f
theorem attachL_keeps (w : Int → Int) (F : Fnt) (n k : Int) (run : List Itm) : SameKey (attachL w F n k run) run := by
  have hr : SameKey run run := ⟨rfl, fun _ _ => ⟨rfl, rfl, rfl⟩⟩
  cases h : lkAt F n with
  | none => rw [attachL_none h]; exact hr
  | some lk =>
    by_cases hk : lk.kind = k
    · subst hk
      by_cases h6 : lk.kind = 6
      · rw [h6, attachL_six h h6]; exact on_keep h6 _ _ _ _
      · by_cases h7 : lk.kind = 7
        · rw [h7, attachL_seven h h7]
          exact ⟨cursL_len .., fun i hi => by obtain ⟨a, b, c, _⟩ := (cursL_inv w F lk.ign run).key i hi; exact ⟨a, b, c⟩⟩
        · by_cases h8 : lk.kind = 8
          · rw [h8, attachL_eight h h8]
            exact ⟨marksL_len .., fun i hi => (marksFold_inv w F lk.ign run _ (Nat.le_refl _)).key i⟩
          · rw [attachL_rest h6 h7 h8]; exact hr
    · rw [attachL_other h hk]; exact hr
theorem attachL_up {w : Int → Int} (hw : Wr w) (d : Int) (F : Fnt) (n k : Int) (run : List Itm) : attachL w F n k (upR w d run) = upR w d (attachL w F n k run) := by
  cases h : lkAt F n with
  | none => rw [attachL_none h, attachL_none h]
  | some lk =>
    by_cases hk : lk.kind = k
    · subst hk
      by_cases h6 : lk.kind = 6
      · rw [h6, attachL_six h h6, attachL_six h h6, upR_len]; exact on_up h6 d _ _ _ _
      · by_cases h7 : lk.kind = 7
        · rw [h7, attachL_seven h h7, attachL_seven h h7]; exact cursL_up hw d F lk.ign run
        · by_cases h8 : lk.kind = 8
          · rw [h8, attachL_eight h h8, attachL_eight h h8]; exact marksL_up hw d F lk.ign run
          · rw [attachL_rest h6 h7 h8, attachL_rest h6 h7 h8]
    · rw [attachL_other h hk, attachL_other h hk]
theorem attachL_twice7 (w : Int → Int) (F : Fnt) (n : Int) (run : List Itm) : attachL w F n 7 (attachL w F n 7 run) = attachL w F n 7 run := by
  cases h : lkAt F n with
  | none => rw [attachL_none h, attachL_none h]
  | some lk =>
    by_cases hk : lk.kind = 7
    · rw [attachL_seven h hk, attachL_seven h hk, cursL_twice]
    · rw [attachL_other h hk, attachL_other h hk]
theorem attachL_twice8 (w : Int → Int) (F : Fnt) (n : Int) (run : List Itm) : attachL w F n 8 (attachL w F n 8 run) = attachL w F n 8 run := by
  cases h : lkAt F n with
  | none => rw [attachL_none h, attachL_none h]
  | some lk =>
    by_cases hk : lk.kind = 8
    · rw [attachL_eight h hk, attachL_eight h hk, marksL_twice]
    · rw [attachL_other h hk, attachL_other h hk]
theorem attachAll_keeps (w : Int → Int) (F : Fnt) (n : Int) (run : List Itm) : SameKey (attachAll w F n run) run := by
  unfold attachAll; split
  · exact ⟨rfl, fun _ _ => ⟨rfl, rfl, rfl⟩⟩
  · exact attachL_keeps ..
theorem attachAll_up {w : Int → Int} (hw : Wr w) (d : Int) (F : Fnt) (n : Int) (run : List Itm) : attachAll w F n (upR w d run) = upR w d (attachAll w F n run) := by
  unfold attachAll; split
  · rfl
  · exact attachL_up hw ..

end Go.Proofs.Ytbjcbcdccekbkaa
