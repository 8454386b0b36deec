/- Plain laws: the places of a match, the first rule, chains. -/
import Derived.Test.YtkoocipagndclaaL3
namespace Go.Proofs.Ytkoocipagndclaa
open Go.RowKit Go.Shelf

theorem inSets_at {run : List Itm} : ∀ {ss : List (List Int)} {ps : List Nat} {i : Nat} {s : List Int} {p : Nat}, inSets run ss ps = true → ss[i]? = some s → ps[i]? = some p → s.contains (gAt run p) = true
  | [], _, i, s, p, _, h1, _ => by simp at h1
  | _ :: _, [], i, s, p, h, _, h2 => by simp at h2
  | t :: ss, q :: ps, i, s, p, h, h1, h2 => by
    rw [inSets_cons, Bool.and_eq_true] at h
    cases i with
    | zero => simp at h1 h2; rw [← h1, ← h2]; exact h.1
    | succ i => exact inSets_at h.2 (by simpa using h1) (by simpa using h2)
theorem sorted_below {l : List Nat} (hp : l.Pairwise (· < ·)) {i m p q : Nat} (hi : (l.take m)[i]? = some p) (hq : q ∈ l) (hlt : q < p) : q ∈ l.take m := by
  obtain ⟨j, hj⟩ := List.mem_iff_getElem?.1 hq
  rw [List.getElem?_take] at hi
  split at hi
  · rename_i him
    obtain ⟨h1, h1'⟩ := List.getElem?_eq_some_iff.1 hi
    obtain ⟨h2, h2'⟩ := List.getElem?_eq_some_iff.1 hj
    have hji : j < i := by
      refine Classical.byContradiction fun hn => ?_
      by_cases e : i = j
      · subst e; omega
      · have := List.pairwise_iff_getElem.1 hp i j h1 h2 (by omega); omega
    refine List.mem_of_getElem? (i := j) ?_
    rw [List.getElem?_take, if_pos (by omega)]; exact hj
  · cases hi
/-- What lies between the places of a match is passed over. -/
theorem places_between {F : Fnt} {lk : Lk} {run : List Itm} {k : Nat} {forms : List Int} {n : Nat} {ps : List Nat} (h : matchL F lk run (k : Int) forms = some (n, ps)) {i p q : Nat} (hp : ps[i]? = some p) (h1 : k ≤ q) (h2 : q < p) : q ∈ ps ∨ (lk.ign && isMark F (gAt run q)) = true := by
  obtain ⟨r, hr, _, _, hne, hhd, hpl, hps, hpw, hfit, he, hb⟩ := matchL_some h
  rw [Int.toNat_natCast] at he
  have hpr := (hps p (List.mem_of_getElem? hp)).2.1
  by_cases hs : seenB F lk.ign run q = true
  · left
    have hm : q ∈ foreL F lk.ign run k := upL_mem.2 ⟨h1, by omega, hs⟩
    rw [he] at hp ⊢
    exact sorted_below (upL_sorted _ _ _) hp hm h2
  · right
    unfold seenB at hs
    simpa using hs
theorem matchL_gly {F F' : Fnt} (h : F'.gly = F.gly) (lk : Lk) (run : List Itm) (k : Int) (forms : List Int) : matchL F' lk run k forms = matchL F lk run k forms := by
  have e : isMark F' = isMark F := by funext g; unfold isMark; rw [h]
  have e1 : ∀ ign, seenB F' ign run = seenB F ign run := fun ign => by funext i; unfold seenB; rw [e]
  unfold matchL begL foreL backL
  rw [e1]
theorem firstR_one {p : Rul → Bool} : ∀ {rs : List Rul} {m n : Nat} {r : Rul}, firstR p rs m = some (n, r) → firstR p (rs.take (n - m)) m = none
  | [], m, n, r, h => by cases h
  | q :: rs, m, n, r, h => by
    rw [firstR] at h
    split at h
    · injection h with h; injection h with h1 h2; subst h1; rw [Nat.sub_self]; rfl
    · rename_i hq
      obtain ⟨h1, _, _⟩ := firstR_mem h
      have ih := firstR_one h
      rw [show n - m = (n - (m + 1)) + 1 by omega, List.take_succ_cons, firstR, if_neg hq]
      exact ih
/-- The rule that is told matches alone; none ahead of it does. -/
theorem first_law {F F1 F2 : Fnt} {lk : Lk} {run : List Itm} {k : Int} {forms : List Int} {n : Nat} {ps : List Nat} {r : Rul} (h : matchL F lk run k forms = some (n, ps)) (hr : lk.rules[n]? = some r) (h1 : F1.gly = F.gly) (h2 : F2.gly = F.gly) :
    matchL F1 { lk with rules := [r] } run k forms = some (0, ps) ∧ matchL F2 { lk with rules := lk.rules.take n } run k forms = none := by
  rw [matchL_gly h1, matchL_gly h2]
  unfold matchL at h ⊢
  split at h
  · rename_i hb
    rw [if_pos hb, if_pos hb]
    cases hf : firstR (fun r => fits run r (foreL F lk.ign run k.toNat) (backL F lk.ign run k.toNat)) lk.rules 0 with
    | none => rw [hf] at h; cases h
    | some x =>
      obtain ⟨m, r'⟩ := x
      rw [hf] at h
      injection h with h; injection h with e1 e2; subst e1
      obtain ⟨_, hr', hfit⟩ := firstR_mem hf
      have er : r' = r := by rw [Nat.sub_zero, hr] at hr'; injection hr' with hr'; exact hr'.symm
      subst er
      have hn := firstR_one hf
      rw [Nat.sub_zero] at hn
      refine ⟨?_, ?_⟩
      · simp only
        rw [firstR, if_pos hfit]
        simp only
        rw [e2]
      · simp only
        rw [hn]
  · cases h

theorem on_same {w : Int → Int} {F : Fnt} {lk : Lk} {forms : List Int} {run : List Itm} (h : ∀ (r : Rul) (ps : List Nat), r ∈ lk.rules → doL w F 4 lk r ps run = run) : ∀ (fuel k : Nat), onL w F lk forms fuel run k = run := by
  intro fuel
  induction fuel with
  | zero => intro k; rfl
  | succ fuel ih =>
    intro k
    rw [onL]
    split
    · split
      · exact ih _
      · rename_i n ps hm
        obtain ⟨r, hr, _⟩ := matchL_some hm
        have hg : lk.rules.getD n default = r := by simp [hr]
        dsimp only
        rw [hg, h r ps (List.mem_of_getElem? hr)]
        exact ih _
    · rfl
theorem lkAt_app (F F2 : Fnt) (l : List Lk) (h : F2.lks = F.lks ++ l) (n : Int) (lk : Lk) (hl : lkAt F n = some lk) : lkAt F2 n = some lk := by
  unfold lkAt at hl ⊢
  split at hl
  · cases hl
  · rename_i h0
    rw [if_neg h0, h, List.getElem?_append_left (List.getElem?_eq_some_iff.1 hl).1]
    exact hl
/-- A chain that calls nothing does nothing. -/
theorem calls_none {w : Int → Int} {F : Fnt} {n : Int} {g : Int} {run : List Itm} {forms : List Int} (hl : lkAt F n = some ⟨4, false, [⟨[], [[g]], [], [], [], 0⟩]⟩) : applyL w F n run forms = run := by
  unfold applyL
  rw [hl]
  simp only
  rw [if_neg (by omega), if_neg (by omega)]
  refine on_same (fun r ps hr => ?_) _ _
  rw [List.mem_singleton] at hr
  subst hr
  rw [doL_chain rfl]; rfl
/-- A chain that calls one lookup for its first item does what that does there. -/
theorem calls_one {w : Int → Int} {F : Fnt} {n a : Int} {it : Itm} {lk : Lk} (hl : lkAt F n = some ⟨4, false, [⟨[], [[it.g]], [], [], [(0, a)], 0⟩]⟩) (ha : lkAt F a = some lk) (h1 : 1 ≤ lk.kind) (h3 : lk.kind ≤ 3) :
    applyL w F n [it] [] = applyL w F a [it] [] := by
  have hd : ∀ (r : Rul) (ps : List Nat) (run : List Itm), doL w F 4 lk r ps run = doL w F 3 lk r ps run := fun r ps run => by
    by_cases k1 : lk.kind = 1 ∨ lk.kind = 5
    · rw [doL_single k1, doL_single k1]
    by_cases k2 : lk.kind = 2
    · rw [doL_mult k2, doL_mult k2]
    · rw [doL_lig (by omega), doL_lig (by omega)]
  have e2 : applyL w F a [it] [] = match matchL F lk [it] 0 [] with | none => [it] | some (n, ps) => doL w F 3 lk (lk.rules.getD n default) ps [it] := by
    unfold applyL
    rw [ha]
    simp only
    rw [if_neg (by omega), if_neg (by omega)]
    show onL w F lk [] (0 + 1) [it] 0 = _
    rw [onL, if_pos (by simp)]
    show (match matchL F lk [it] (0 : Int) [] with | none => _ | some (n, ps) => _) = _
    cases matchL F lk [it] (0 : Int) [] with
    | none => rfl
    | some x => obtain ⟨n, ps⟩ := x; simp only [onL]; rw [hd]
  have e1 : applyL w F n [it] [] = stepC w F 3 ⟨4, false, [⟨[], [[it.g]], [], [], [(0, a)], 0⟩]⟩ 0 [it] (0, a) := by
    unfold applyL
    rw [hl]
    simp only
    rw [if_neg (by omega), if_neg (by omega)]
    show onL w F _ [] (0 + 1) [it] 0 = _
    rw [onL, if_pos (by simp)]
    have hm := matchL_flat (F := F) (lk := ⟨4, false, [⟨[], [[it.g]], [], [], [(0, a)], 0⟩]⟩) (run := [it]) (k := 0) (it := it) (forms := []) (fun r hr => by rw [List.mem_singleton] at hr; subst hr; exact ⟨rfl, rfl, rfl⟩) rfl
    have hp : pick F ⟨4, false, [⟨[], [[it.g]], [], [], [(0, a)], 0⟩]⟩ [] it = some (0, ⟨[], [[it.g]], [], [], [(0, a)], 0⟩) := by
      unfold pick
      simp [firstR]
    rw [hm, hp]
    simp only [Option.map_some, onL]
    show doL w F (3 + 1) _ ⟨[], [[it.g]], [], [], [(0, a)], 0⟩ [0] [it] = _
    rw [doL_chain rfl]
    rfl
  rw [e1, e2]
  unfold stepC
  have hn : nthL F false [it] 0 0 = some 0 := by
    unfold nthL
    rw [if_neg (by omega), upL_yes (by simp) (by unfold seenB; rfl)]
    rfl
  rw [hn, ha]
  simp only
  rw [if_pos ⟨h1, by omega⟩]
  show (match matchL F lk [it] (0 : Int) [] with | some (n, ps) => _ | none => _) = _
  cases matchL F lk [it] (0 : Int) [] with
  | none => rfl
  | some x => rfl

end Go.Proofs.Ytkoocipagndclaa
