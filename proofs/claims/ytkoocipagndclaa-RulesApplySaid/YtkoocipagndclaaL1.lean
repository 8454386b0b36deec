/- Plain laws: what lookups keep, lengths, clusters. -/
import Derived.Test.YtkoocipagndclaaD6
namespace Go.Proofs.Ytkoocipagndclaa
open Go.RowKit Go.Shelf

/-- One call of a chain. -/
def stepC (w : Int → Int) (F : Fnt) (d : Nat) (lk : Lk) (k : Nat) (run : List Itm) (c : Int × Int) : List Itm :=
  match nthL F lk.ign run k c.1, lkAt F c.2 with
  | some p, some l =>
    if 1 ≤ l.kind ∧ l.kind ≤ 4 then
      match matchL F l run p [] with
      | some (n, ps) => doL w F d l (l.rules.getD n default) ps run
      | none => run
    else run
  | _, _ => run
theorem doL_chain {w : Int → Int} {F : Fnt} {d : Nat} {lk : Lk} {r : Rul} {ps : List Nat} {run : List Itm} (h : lk.kind = 4) : doL w F (d + 1) lk r ps run = r.calls.foldl (stepC w F d lk (ps.headD 0)) run := by
  rw [doL]; simp only [h]; rw [if_neg (by omega), if_neg (by omega), if_neg (by omega), if_pos trivial]; rfl
theorem doL_deep {w : Int → Int} {F : Fnt} {lk : Lk} {r : Rul} {ps : List Nat} {run : List Itm} (h : lk.kind = 4) : doL w F 0 lk r ps run = run := by
  rw [doL]; simp only [h]; rw [if_neg (by omega), if_neg (by omega), if_neg (by omega), if_pos trivial]
theorem doL_single {w : Int → Int} {F : Fnt} {d : Nat} {lk : Lk} {r : Rul} {ps : List Nat} {run : List Itm} (h : lk.kind = 1 ∨ lk.kind = 5) : doL w F d lk r ps run = singleL r (ps.headD 0) run := by
  unfold doL; simp only; rw [if_pos h]
theorem doL_mult {w : Int → Int} {F : Fnt} {d : Nat} {lk : Lk} {r : Rul} {ps : List Nat} {run : List Itm} (h : lk.kind = 2) : doL w F d lk r ps run = multL (ps.headD 0) r.out run := by
  unfold doL; simp only; rw [if_neg (by omega), if_pos h]
theorem doL_lig {w : Int → Int} {F : Fnt} {d : Nat} {lk : Lk} {r : Rul} {ps : List Nat} {run : List Itm} (h : lk.kind = 3) : doL w F d lk r ps run = match r.out with | [] => run | g :: _ => joinL ps g run := by
  unfold doL; simp only; rw [if_neg (by omega), if_neg (by omega), if_pos h]; cases r.out <;> rfl
theorem doL_pair' {w : Int → Int} {F : Fnt} {d : Nat} {lk : Lk} {r : Rul} {ps : List Nat} {run : List Itm} (h : lk.kind = 6) : doL w F d lk r ps run = pairL w (ps.headD 0) r.x run := by
  unfold doL; simp only; rw [if_neg (by omega), if_neg (by omega), if_neg (by omega), if_neg (by omega), if_pos h]
theorem doL_other {w : Int → Int} {F : Fnt} {d : Nat} {lk : Lk} {r : Rul} {ps : List Nat} {run : List Itm} (h : lk.kind < 1 ∨ 6 < lk.kind) : doL w F d lk r ps run = run := by
  unfold doL; simp only; rw [if_neg (by omega), if_neg (by omega), if_neg (by omega), if_neg (by omega), if_neg (by omega)]

/-- What is known of the places of a match, as 'do' needs it. -/
theorem match_places {F : Fnt} {lk : Lk} {run : List Itm} {k : Int} {forms : List Int} {n : Nat} {ps : List Nat} (h : matchL F lk run k forms = some (n, ps)) : ps ≠ [] ∧ (∀ p ∈ ps, p < run.length) ∧ ps.Pairwise (· < ·) := by
  obtain ⟨r, _, _, _, hne, _, _, hps, hpw, _⟩ := matchL_some h
  exact ⟨hne, fun p hp => (hps p hp).2.1, hpw⟩

/-- What the four ways of 'do' keep, lookups keep. -/
structure Rel (w : Int → Int) (R : List Itm → List Itm → Prop) : Prop where
  refl : ∀ a, R a a
  trans : ∀ a b c, R a b → R b c → R a c
  single : ∀ r k run, k < run.length → R run (singleL r k run)
  mult : ∀ k out run, k < run.length → R run (multL k out run)
  join : ∀ p ps g run, (∀ q ∈ p :: ps, q < run.length) → (p :: ps).Pairwise (· < ·) → R run (joinL (p :: ps) g run)
  pair : ∀ k x run, k < run.length → R run (pairL w k x run)
section
variable {w : Int → Int} {R : List Itm → List Itm → Prop} {F : Fnt}
theorem Rel.fold {α : Type} (h : Rel w R) {st : List Itm → α → List Itm} (hs : ∀ run c, R run (st run c)) : ∀ (l : List α) (run : List Itm), R run (l.foldl st run)
  | [], run => h.refl run
  | c :: l, run => h.trans _ _ _ (hs run c) (Rel.fold h hs l (st run c))
theorem Rel.do_ (h : Rel w R) (d : Nat) : ∀ (lk : Lk) (r : Rul) (ps : List Nat) (run : List Itm), ps ≠ [] → (∀ p ∈ ps, p < run.length) → ps.Pairwise (· < ·) → R run (doL w F d lk r ps run) := by
  induction d with
  | zero =>
    intro lk r ps run hne hpl hpw
    obtain ⟨p, t, rfl⟩ : ∃ p t, ps = p :: t := by cases ps with | nil => exact absurd rfl hne | cons p t => exact ⟨p, t, rfl⟩
    have hp := hpl p (List.mem_cons_self ..)
    by_cases h1 : lk.kind = 1 ∨ lk.kind = 5
    · rw [doL_single h1]; exact h.single _ _ _ hp
    by_cases h2 : lk.kind = 2
    · rw [doL_mult h2]; exact h.mult _ _ _ hp
    by_cases h3 : lk.kind = 3
    · rw [doL_lig h3]; split
      · exact h.refl _
      · exact h.join _ _ _ _ hpl hpw
    by_cases h4 : lk.kind = 4
    · rw [doL_deep h4]; exact h.refl _
    by_cases h6 : lk.kind = 6
    · rw [doL_pair' h6]; exact h.pair _ _ _ hp
    rw [doL_other (by omega)]; exact h.refl _
  | succ d ih =>
    intro lk r ps run hne hpl hpw
    obtain ⟨p, t, rfl⟩ : ∃ p t, ps = p :: t := by cases ps with | nil => exact absurd rfl hne | cons p t => exact ⟨p, t, rfl⟩
    have hp := hpl p (List.mem_cons_self ..)
    by_cases h1 : lk.kind = 1 ∨ lk.kind = 5
    · rw [doL_single h1]; exact h.single _ _ _ hp
    by_cases h2 : lk.kind = 2
    · rw [doL_mult h2]; exact h.mult _ _ _ hp
    by_cases h3 : lk.kind = 3
    · rw [doL_lig h3]; split
      · exact h.refl _
      · exact h.join _ _ _ _ hpl hpw
    by_cases h4 : lk.kind = 4
    · rw [doL_chain h4]
      refine h.fold (fun run c => ?_) _ _
      unfold stepC
      split
      · split
        · split
          · rename_i hm
            obtain ⟨a, b, c⟩ := match_places hm
            exact ih _ _ _ _ a b c
          · exact h.refl _
        · exact h.refl _
      · exact h.refl _
    by_cases h6 : lk.kind = 6
    · rw [doL_pair' h6]; exact h.pair _ _ _ hp
    rw [doL_other (by omega)]; exact h.refl _
theorem Rel.on (h : Rel w R) (lk : Lk) (forms : List Int) : ∀ (fuel : Nat) (run : List Itm) (k : Nat), R run (onL w F lk forms fuel run k) := by
  intro fuel
  induction fuel with
  | zero => intro run k; exact h.refl _
  | succ fuel ih =>
    intro run k
    rw [onL]
    split
    · split
      · exact ih _ _
      · rename_i hm
        obtain ⟨a, b, c⟩ := match_places hm
        exact h.trans _ _ _ (h.do_ 4 _ _ _ _ a b c) (ih _ _)
    · exact h.refl _
theorem Rel.bw (h : Rel w R) (lk : Lk) (forms : List Int) : ∀ (k : Nat) (run : List Itm), R run (bwL w F lk forms k run) := by
  intro k
  induction k with
  | zero => intro run; exact h.refl _
  | succ k ih =>
    intro run
    rw [bwL]
    split
    · exact ih _
    · rename_i hm
      obtain ⟨a, b, c⟩ := match_places hm
      exact h.trans _ _ _ (h.do_ 4 _ _ _ _ a b c) (ih _)
theorem Rel.apply (h : Rel w R) (n : Int) (run : List Itm) (forms : List Int) : R run (applyL w F n run forms) := by
  unfold applyL
  split
  · exact h.refl _
  · split
    · exact h.refl _
    · split
      · exact h.bw _ _ _ _
      · exact h.on _ _ _ _ _
end

theorem single_len (r : Rul) (k : Nat) (run : List Itm) : (singleL r k run).length = run.length := by unfold singleL; split <;> simp
theorem pair_len (w : Int → Int) (k : Nat) (x : Int) (run : List Itm) : (pairL w k x run).length = run.length := by simp [pairL]
theorem mult_len {k : Nat} {out : List Int} {run : List Itm} (h : k < run.length) : (multL k out run).length ≤ max run.length 500 ∧ run.length ≤ (multL k out run).length + 1 := by
  unfold multL
  split
  · omega
  · rename_i hc
    simp only [List.length_append, List.length_take, List.length_map, List.length_drop]
    omega
theorem foldr_erase_le (l : List Nat) (run : List Itm) : (l.foldr (fun i r => r.eraseIdx i) run).length ≤ run.length := by
  induction l with
  | nil => simp
  | cons a t ih => rw [List.foldr_cons]; exact Nat.le_trans (List.length_eraseIdx_le ..) ih
theorem join_len (p : Nat) (ps : List Nat) (g : Int) (run : List Itm) : (joinL (p :: ps) g run).length ≤ run.length := by
  unfold joinL; dsimp only
  refine Nat.le_trans (foldr_erase_le _ _) (by simp)
theorem join_len_eq {p : Nat} {ps : List Nat} {g : Int} {run : List Itm} (hb : ∀ q ∈ p :: ps, q < run.length) (hp : (p :: ps).Pairwise (· < ·)) : (joinL (p :: ps) g run).length = run.length - ps.length := by
  unfold joinL; dsimp only
  rw [(erase_len (List.pairwise_cons.1 hp).2 (fun x hx => by simpa using hb x (List.mem_cons_of_mem _ hx))).1]
  simp
theorem rel_len (w : Int → Int) : Rel w fun a b => b.length ≤ max a.length 500 :=
  ⟨fun a => by omega, fun a b c h1 h2 => by omega, fun r k run _ => by rw [single_len]; omega, fun k out run h => (mult_len h).1, fun p ps g run _ _ => by have := join_len p ps g run; omega, fun k x run _ => by rw [pair_len]; omega⟩
theorem doL_len {w : Int → Int} {F : Fnt} {d : Nat} {lk : Lk} {r : Rul} {ps : List Nat} {run : List Itm} (h1 : ps ≠ []) (h2 : ∀ p ∈ ps, p < run.length) (h3 : ps.Pairwise (· < ·)) : (doL w F d lk r ps run).length ≤ max run.length 500 := (rel_len w).do_ d lk r ps run h1 h2 h3
theorem apply_len (w : Int → Int) (F : Fnt) (n : Int) (run : List Itm) (forms : List Int) : (applyL w F n run forms).length ≤ max run.length 500 := (rel_len w).apply n run forms
theorem places_last {ps : List Nat} (hp : ps.Pairwise (· < ·)) : ps.length ≤ ps.getLastD 0 + 1 := by
  have key : ∀ (i : Nat) (h : i < ps.length), i ≤ ps[i] := by
    intro i
    induction i with
    | zero => intro h; omega
    | succ i ih =>
      intro h
      have h1 := ih (by omega)
      have h2 := List.pairwise_iff_getElem.1 hp i (i + 1) (by omega) h (by omega)
      omega
  by_cases h0 : ps = []
  · subst h0; simp
  · have hl := last_at h0
    obtain ⟨h1, h2⟩ := List.getElem?_eq_some_iff.1 hl
    have := key _ h1
    omega
/-- Lengths stay in bounds, whatever the lookup. -/
theorem lenOK (F : Fnt) (lk : Lk) : LenOK F lk := by
  intro run k forms n ps hln hm
  obtain ⟨h1, h2, h3⟩ := match_places hm
  have hl := doL_len (w := w64) (F := F) (d := 4) (lk := lk) (r := lk.rules.getD n default) h1 h2 h3
  refine ⟨by omega, fun h4 => ?_, fun h6 => by rw [doL_pair' h6, pair_len]⟩
  have hpl := places_last h3
  obtain ⟨p, t, rfl⟩ : ∃ p t, ps = p :: t := by cases ps with | nil => exact absurd rfl h1 | cons p t => exact ⟨p, t, rfl⟩
  have hp := h2 p (List.mem_cons_self ..)
  by_cases k1 : lk.kind = 1 ∨ lk.kind = 5
  · rw [doL_single k1, single_len]; omega
  by_cases k2 : lk.kind = 2
  · rw [doL_mult k2]; have := (mult_len (k := (p :: t).headD 0) (out := (lk.rules.getD n default).out) hp).2; omega
  by_cases k3 : lk.kind = 3
  · rw [doL_lig k3]; split
    · omega
    · rw [join_len_eq h2 h3]; rw [List.length_cons] at hpl; omega
  by_cases k6 : lk.kind = 6
  · rw [doL_pair' k6, pair_len]; omega
  rw [doL_other (by omega)]; omega

/-- Clusters: each comes of the run's; if they never fall, they never fall behind it. -/
def clu (run : List Itm) : List Int := run.map (·.c)
def CluR (a b : List Itm) : Prop := (∀ x ∈ clu b, x ∈ clu a) ∧ ((clu a).Pairwise (· ≤ ·) → (clu b).Pairwise (· ≤ ·))
theorem clu_modify (run : List Itm) (k : Nat) (f : Itm → Itm) (hf : ∀ it, (f it).c = it.c) : clu (run.modify k f) = clu run := by
  unfold clu
  apply List.ext_getElem?
  intro i
  rw [List.getElem?_map, List.getElem?_modify, List.getElem?_map]
  cases run[i]? with
  | none => rfl
  | some it => simp only [Option.map_some]; split <;> simp [hf]
theorem clu_erase (l : List Nat) (run : List Itm) : (clu (l.foldr (fun i r => r.eraseIdx i) run)).Sublist (clu run) := by
  induction l with
  | nil => exact List.Sublist.refl _
  | cons a t ih => rw [List.foldr_cons]; exact ((List.eraseIdx_sublist _ _).map _).trans ih
theorem leastC_mem (run : List Itm) : ∀ (l : List Nat) (m : Int), (∀ p ∈ l, p < run.length) → m ∈ clu run → leastC run m l ∈ clu run
  | [], m, _, hm => hm
  | p :: l, m, hp, hm => by
    unfold leastC; rw [List.foldl_cons]
    refine leastC_mem run l _ (fun q hq => hp q (List.mem_cons_of_mem _ hq)) ?_
    have h1 := hp p (List.mem_cons_self ..)
    by_cases h : m ≤ cAt run p
    · rw [show min m (cAt run p) = m by omega]; exact hm
    · rw [show min m (cAt run p) = cAt run p by omega, cAt_some (List.getElem?_eq_getElem h1)]
      exact List.mem_map.2 ⟨_, List.getElem_mem h1, rfl⟩
theorem leastC_id (run : List Itm) : ∀ (l : List Nat) (m : Int), (∀ p ∈ l, m ≤ cAt run p) → leastC run m l = m
  | [], _, _ => rfl
  | p :: l, m, hp => by
    unfold leastC; rw [List.foldl_cons]
    rw [show min m (cAt run p) = m by have := hp p (List.mem_cons_self ..); omega]
    exact leastC_id run l m fun q hq => hp q (List.mem_cons_of_mem _ hq)
theorem set_same {α : Type} {l : List α} {i : Nat} {x : α} (h : l[i]? = some x) : l.set i x = l := by
  obtain ⟨hl, rfl⟩ := List.getElem?_eq_some_iff.1 h
  exact List.set_getElem_self ..
theorem rel_clu (w : Int → Int) : Rel w CluR := by
  refine ⟨fun a => ⟨fun _ h => h, fun h => h⟩, fun a b c h1 h2 => ⟨fun x hx => h1.1 x (h2.1 x hx), fun h => h2.2 (h1.2 h)⟩, fun r k run _ => ?_, fun k out run h => ?_, fun p ps g run hb hp => ?_, fun k x run _ => ?_⟩
  · have e : clu (singleL r k run) = clu run := by
      unfold singleL; split
      · exact clu_modify _ _ _ fun _ => rfl
      · rfl
    exact ⟨fun x hx => by rw [e] at hx; exact hx, fun h => by rw [e]; exact h⟩
  · unfold multL
    split
    · exact ⟨fun _ h => h, fun h => h⟩
    · have hg : run.getD k default = run[k] := by simp [List.getD_eq_getElem?_getD, List.getElem?_eq_getElem h]
      have e : clu (run.take k ++ (out.map fun g => setG (run.getD k default) g) ++ run.drop (k + 1)) = clu (run.take k) ++ List.replicate out.length run[k].c ++ clu (run.drop (k + 1)) := by
        unfold clu
        rw [List.map_append, List.map_append, List.map_map, hg]
        congr 2
        rw [show ((fun x : Itm => x.c) ∘ fun g => setG run[k] g) = Function.const Int run[k].c from rfl, List.map_const]
      have e0 : clu run = clu (run.take k) ++ run[k].c :: clu (run.drop (k + 1)) := by
        unfold clu
        rw [← List.map_cons, List.getElem_cons_drop, ← List.map_append, List.take_append_drop]
      refine ⟨fun x hx => ?_, fun hp => ?_⟩
      · rw [e, List.mem_append, List.mem_append, List.mem_replicate] at hx
        rw [e0, List.mem_append, List.mem_cons]
        rcases hx with (hx | ⟨_, hx⟩) | hx
        · exact .inl hx
        · exact .inr (.inl hx)
        · exact .inr (.inr hx)
      · rw [e0, List.pairwise_append, List.pairwise_cons] at hp
        rw [e, List.append_assoc, List.pairwise_append, List.pairwise_append]
        obtain ⟨h1, ⟨h2, h3⟩, h4⟩ := hp
        refine ⟨h1, ⟨by rw [List.pairwise_replicate]; right; omega, h3, fun a ha b hb => ?_⟩, fun a ha b hb => ?_⟩
        · rw [List.mem_replicate] at ha; rw [ha.2]; exact h2 b hb
        · rw [List.mem_append, List.mem_replicate] at hb
          rcases hb with ⟨_, rfl⟩ | hb
          · exact h4 a ha _ (List.mem_cons_self ..)
          · exact h4 a ha b (List.mem_cons_of_mem _ hb)
  · have hpl := hb p (List.mem_cons_self ..)
    have hit : run[p]? = some run[p] := List.getElem?_eq_getElem hpl
    rw [join_eq hit]
    have hsub := clu_erase ps (run.set p { run[p] with g := g, c := leastC run run[p].c (p :: ps) })
    have e : clu (run.set p { run[p] with g := g, c := leastC run run[p].c (p :: ps) }) = (clu run).set p (leastC run run[p].c (p :: ps)) := by unfold clu; rw [List.map_set]
    rw [e] at hsub
    have hmem := leastC_mem run (p :: ps) run[p].c hb (List.mem_map.2 ⟨_, List.getElem_mem hpl, rfl⟩)
    refine ⟨fun x hx => ?_, fun hpw => ?_⟩
    · rcases List.mem_or_eq_of_mem_set (hsub.subset hx) with h | h
      · exact h
      · rw [h]; exact hmem
    · have hid : leastC run run[p].c (p :: ps) = run[p].c := leastC_id _ _ _ fun q hq => by
        have hq1 := hb q hq
        rw [cAt_some (List.getElem?_eq_getElem hq1)]
        rcases List.mem_cons.1 hq with rfl | hq2
        · exact Int.le_refl _
        · have hlt := (List.pairwise_cons.1 hp).1 q hq2
          have := List.pairwise_iff_getElem.1 hpw p q (by simpa [clu] using hpl) (by simpa [clu] using hq1) hlt
          simpa [clu] using this
      have hset : (clu run).set p (leastC run run[p].c (p :: ps)) = clu run := by
        rw [hid]; exact set_same (by unfold clu; rw [List.getElem?_map, hit]; rfl)
      rw [hset] at hsub
      exact hpw.sublist hsub
  · have e : clu (pairL w k x run) = clu run := clu_modify _ _ _ fun _ => rfl
    exact ⟨fun x hx => by rw [e] at hx; exact hx, fun h => by rw [e]; exact h⟩
theorem apply_clu (w : Int → Int) (F : Fnt) (n : Int) (run : List Itm) (forms : List Int) : CluR run (applyL w F n run forms) := (rel_clu w).apply n run forms

/-- Where no rule matches at any place, nothing changes. -/
theorem on_none {w : Int → Int} {F : Fnt} {lk : Lk} {forms : List Int} {run : List Itm} (h : ∀ k < run.length, matchL F lk run (k : Int) forms = none) : ∀ (fuel k : Nat), onL w F lk forms fuel run k = run := by
  intro fuel
  induction fuel with
  | zero => intro k; rfl
  | succ fuel ih =>
    intro k
    rw [onL]
    split
    · rename_i hk; rw [h k hk]; exact ih _
    · rfl
theorem bw_none {w : Int → Int} {F : Fnt} {lk : Lk} {forms : List Int} {run : List Itm} (h : ∀ k < run.length, matchL F lk run (k : Int) forms = none) : ∀ k ≤ run.length, bwL w F lk forms k run = run := by
  intro k
  induction k with
  | zero => intro _; rfl
  | succ k ih => intro hk; rw [bwL, h k (by omega)]; exact ih (by omega)
theorem apply_none {w : Int → Int} {F : Fnt} {n : Int} {forms : List Int} {run : List Itm} (h : ∀ lk, lkAt F n = some lk → ∀ k < run.length, matchL F lk run (k : Int) forms = none) : applyL w F n run forms = run := by
  unfold applyL
  split
  · rfl
  · rename_i lk hl
    split
    · rfl
    · split
      · exact bw_none (h lk hl) _ (Nat.le_refl _)
      · exact on_none (h lk hl) _ _

end Go.Proofs.Ytkoocipagndclaa
