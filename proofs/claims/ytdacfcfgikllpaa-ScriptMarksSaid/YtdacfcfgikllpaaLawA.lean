/- Plain: the program's clusters and order are the reference's. -/
import Derived.Test.YtdacfcfgikllpaaSpec3
namespace Go.Proofs.Ytdacfcfgikllpaa

def kd (xs : List Int) (i : Nat) : Int := kind (xs.getD i 0)

/-- A row of groups, from a place on to the end. -/
def IsGroups (xs : List Int) : Nat → List (Nat × Nat) → Prop
  | a, [] => a = xs.length
  | a, (a', b) :: t => a' = a ∧ a < b ∧ b ≤ xs.length ∧ (∀ j, a < j → j < b → kd xs j = 3) ∧ (b < xs.length → kd xs b ≠ 3) ∧ IsGroups xs b t

theorem isGroups_from (xs : List Int) (f a i : Nat) (hi : i + f = xs.length) (ha : a ≤ i) (hm : ∀ j, a < j → j < i → kd xs j = 3) : IsGroups xs a (groupsFrom xs f a i) := by
  induction f generalizing a i with
  | zero =>
    unfold groupsFrom
    split
    · rename_i h
      exact ⟨rfl, h, Nat.le_refl _, fun j h1 h2 => hm j h1 (by omega), fun h => by omega, rfl⟩
    · simp only [IsGroups]; omega
  | succ f ih =>
    unfold groupsFrom
    split
    · rename_i h
      refine ih a (i + 1) (by omega) (by omega) (fun j h1 h2 => ?_)
      by_cases e : j = i
      · subst e
        rcases h with h | h
        · omega
        · exact h
      · exact hm j h1 (by omega)
    · rename_i h
      simp only [not_or] at h
      refine ⟨rfl, by omega, by omega, hm, fun _ => h.2, ?_⟩
      exact ih i (i + 1) (by omega) (by omega) (fun j h1 h2 => by omega)
theorem isGroups_all (xs : List Int) : IsGroups xs 0 (groupsL xs) := isGroups_from xs xs.length 0 0 (by omega) (by omega) (fun j h1 h2 => by omega)

/-- A place where a group begins. -/
def Start (xs : List Int) (a : Nat) : Prop := a = 0 ∨ kd xs a ≠ 3

theorem grp_of {xs : List Int} {a b : Nat} (hs : Start xs a) (hm : ∀ j, a < j → j < b → kd xs j = 3) {p : Nat} (h1 : a ≤ p) (h2 : p < b) : grp xs p = a := by
  induction p with
  | zero => simp [grp]; omega
  | succ p ih =>
    unfold grp
    by_cases e : a = p + 1
    · rw [if_neg]
      · omega
      · rcases hs with hs | hs
        · omega
        · unfold kd at hs; rw [e] at hs; exact hs
    · have := hm (p + 1) (by omega) h2
      unfold kd at this
      rw [if_pos this]
      exact ih (by omega) (by omega)

/-- The root of a group: the first one ahead, over vowels, that is none. -/
def root (xs : List Int) (a : Nat) : Nat := cback xs a a
theorem cback_more (xs : List Int) (f f' c : Nat) (h : c ≤ f) (h' : c ≤ f') : cback xs f c = cback xs f' c := by
  induction f generalizing c f' with
  | zero =>
    have : c = 0 := by omega
    subst this; rw [cback_zero, cback_zero]
  | succ f ih =>
    cases f' with
    | zero =>
      have : c = 0 := by omega
      subst this; rw [cback_zero, cback_zero]
    | succ f' =>
      unfold cback
      split
      · exact ih _ _ (by have := grp_le xs (c - 1); omega) (by have := grp_le xs (c - 1); omega)
      · rfl
theorem root_self {xs : List Int} {a : Nat} (h : kd xs a ≠ 5 ∨ a = 0) : root xs a = a := by
  unfold root
  cases a with
  | zero => exact cback_zero _ _
  | succ a =>
    unfold cback
    rw [if_neg]
    unfold kd at h
    rcases h with h | h
    · exact fun hc => h hc.2
    · omega
theorem root_back {xs : List Int} {a p : Nat} (h : kd xs a = 5) (h0 : 0 < a) (hp : grp xs (a - 1) = p) : root xs a = root xs p := by
  unfold root
  obtain ⟨k, rfl⟩ : ∃ k, a = k + 1 := ⟨a - 1, by omega⟩
  conv => lhs; unfold cback
  unfold kd at h
  rw [if_pos ⟨h0, h⟩, hp]
  have := grp_le xs (k + 1 - 1)
  exact cback_more xs _ _ _ (by omega) (Nat.le_refl _)
theorem root_le (xs : List Int) (a : Nat) : root xs a ≤ a := cback_le xs a a

theorem clu_of {xs : List Int} {p a : Nat} (h : grp xs p = a) : clu xs p = if kd xs (root xs a) = 4 then root xs a else a := by
  unfold clu root kd
  simp only [h]

/-- The group that lies ahead of a place where a group begins. -/
structure Prev (xs : List Int) (a p : Nat) : Prop where
  lt : p < a
  start : Start xs p
  marks : ∀ j, p < j → j < a → kd xs j = 3

theorem Prev.grp {xs : List Int} {a p : Nat} (h : Prev xs a p) : grp xs (a - 1) = p := grp_of h.start h.marks (by have := h.lt; omega) (by have := h.lt; omega)

-- clusters
theorem clusters_fold (xs : List Int) : ∀ (gs : List (Nat × Nat)) (a : Nat) (st : List Nat × Bool), IsGroups xs a gs → Start xs a ∨ gs = [] → (a = 0 ∨ ∃ p, Prev xs a p ∧ st.2 = decide (kd xs (root xs p) = 4)) → (a = 0 → st.2 = false) →
    st.1 = (List.range a).filter (fun i => decide (clu xs i = i)) → (gs.foldl (clusStep xs) st).1 = rclusters xs
  | [], a, st, hg, _, _, _, hst => by
    simp only [IsGroups] at hg
    subst hg
    exact hst
  | (a', b) :: t, a, st, hg, hs, hp, h0, hst => by
    obtain ⟨rfl, h1, h2, h3, h4, h5⟩ := hg
    have hsa : Start xs a' := by rcases hs with h | h; exact h; cases h
    have hga : grp xs a' = a' := grp_of hsa h3 (Nat.le_refl _) h1
    have hfil : (List.range b).filter (fun i => decide (clu xs i = i)) = (List.range a').filter (fun i => decide (clu xs i = i)) ++ (if clu xs a' = a' then [a'] else []) := by
      have e : List.range b = List.range a' ++ List.range' a' (b - a') := by
        have e2 : List.range' 0 a' ++ List.range' (0 + a') (b - a') = List.range' 0 (a' + (b - a')) := List.range'_append_1
        rw [Nat.zero_add] at e2
        rw [List.range_eq_range', List.range_eq_range', e2]; congr 1; omega
      rw [e, List.filter_append]
      congr 1
      obtain ⟨L, hL⟩ : ∃ L, b - a' = L + 1 := ⟨b - a' - 1, by omega⟩
      rw [hL, List.range'_succ, List.filter_cons]
      have hnone : (List.range' (a' + 1) L).filter (fun i => decide (clu xs i = i)) = [] := by
        rw [List.filter_eq_nil_iff]
        intro i hi
        rw [List.mem_range'_1] at hi
        have hgi : grp xs i = a' := grp_of hsa h3 (by omega) (by omega)
        have := clu_of hgi
        have hr := root_le xs a'
        simp only [decide_eq_true_eq]
        intro e2
        rw [this] at e2
        split at e2 <;> omega
      rw [hnone]
      by_cases hc : clu xs a' = a' <;> simp [hc]
    have hcl := clu_of hga
    have hprev : Prev xs b a' := ⟨h1, hsa, h3⟩
    simp only [List.foldl_cons]
    have hsb : Start xs b ∨ t = [] := by
      by_cases hb : b < xs.length
      · exact .inl (.inr (h4 hb))
      · right
        cases t with
        | nil => rfl
        | cons g t => obtain ⟨_, q1, q2, _⟩ := h5; omega
    by_cases hv : kd xs a' = 5 ∧ st.2 = true
    · have hstep : clusStep xs st (a', b) = st := by unfold clusStep; unfold kd at hv; rw [if_pos hv]
      rw [hstep]
      have ha0 : a' ≠ 0 := fun e => by rw [h0 e] at hv; simp at hv
      rcases hp with hp | ⟨p, hp, hp2⟩
      · exact absurd hp ha0
      · have hr := root_back hv.1 (by omega) hp.grp
        rw [hv.2] at hp2
        have hk4 : kd xs (root xs p) = 4 := by simpa using hp2.symm
        refine clusters_fold xs t b st h5 hsb (.inr ⟨a', hprev, ?_⟩) (fun e => by omega) ?_
        · rw [hr, hv.2]; simp [hk4]
        · rw [hfil, if_neg, List.append_nil]
          · exact hst
          · rw [hcl, hr, if_pos hk4]
            have := root_le xs p
            have := hp.lt
            omega
    · have hstep : clusStep xs st (a', b) = (st.1 ++ [a'], decide (kd xs a' = 4)) := by unfold clusStep; unfold kd at hv ⊢; rw [if_neg hv]
      rw [hstep]
      have hself : clu xs a' = a' ∧ (kd xs (root xs a') = 4 ↔ kd xs a' = 4) := by
        by_cases hk : kd xs a' = 5 ∧ a' ≠ 0
        · rcases hp with hp | ⟨p, hp, hp2⟩
          · exact absurd hp hk.2
          · have hr := root_back hk.1 (by omega) hp.grp
            have hf : st.2 = false := by
              cases h : st.2
              · rfl
              · exact absurd ⟨hk.1, h⟩ hv
            rw [hf] at hp2
            have hk4 : ¬ kd xs (root xs p) = 4 := by simpa using hp2.symm
            rw [hcl, hr, if_neg hk4]
            refine ⟨rfl, ?_⟩
            rw [hk.1]
            exact ⟨fun h => absurd h hk4, fun h => by omega⟩
        · have hr : root xs a' = a' := root_self (by omega)
          rw [hcl, hr]
          exact ⟨by split <;> rfl, Iff.rfl⟩
      refine clusters_fold xs t b _ h5 hsb (.inr ⟨a', hprev, ?_⟩) (fun e => by omega) ?_
      · simp only [hself.2]
      · rw [hfil, if_pos hself.1, hst]

theorem clusters_eq (xs : List Int) : clustersL xs = rclusters xs := by
  unfold clustersL
  refine clusters_fold xs (groupsL xs) 0 ([], false) (isGroups_all xs) (.inl (.inl rfl)) (.inl rfl) (fun _ => rfl) rfl

-- order
theorem aheadB_asymm (xs : List Int) (a b : Nat) (h : aheadB xs a b = true) : aheadB xs b a = false := by
  unfold aheadB at *
  generalize clu xs a = p at *
  generalize clu xs b = q at *
  generalize grp xs a = r at *
  generalize grp xs b = s at *
  generalize (kind (xs.getD a 0) == 3) = m1 at *
  generalize (kind (xs.getD b 0) == 3) = m2 at *
  generalize cls (xs.getD a 0) = l1 at *
  generalize cls (xs.getD b 0) = l2 at *
  by_cases c1 : p = q
  · subst c1
    simp only [ne_eq, not_true_eq_false, if_false] at h ⊢
    by_cases c2 : r = s
    · subst c2
      simp only [not_true_eq_false, if_false] at h ⊢
      cases m1 <;> cases m2 <;> simp at h ⊢
      all_goals
        by_cases c3 : l1 = l2
        · subst c3; simp only [if_true] at h ⊢; omega
        · have c3' := Ne.symm c3
          simp only [c3, c3', if_false] at h ⊢; omega
    · rw [if_pos c2] at h
      rw [if_pos (Ne.symm c2)]
      by_cases c3 : r = p
      · rw [if_pos c3] at h; cases h
      · rw [if_neg c3] at h
        by_cases c4 : s = p
        · rw [if_pos c4]
        · rw [if_neg c4]
          simp [c3, c4] at h ⊢
          omega
  · have c2 : ¬ q = p := fun e => c1 e.symm
    simp only [ne_eq, c1, c2, not_false_eq_true, if_true] at h ⊢
    simp at h ⊢; omega

theorem ahead_clu {xs : List Int} {x y : Nat} (h : clu xs x < clu xs y) : aheadB xs x y = true := by
  unfold aheadB; rw [if_pos (by omega)]; simpa using h
theorem ahead_grp {xs : List Int} {x y c : Nat} (h1 : clu xs x = c) (h2 : clu xs y = c) (h3 : grp xs x ≠ c) (h4 : grp xs y = c ∨ grp xs x < grp xs y) : aheadB xs x y = true := by
  unfold aheadB
  rw [h1, h2, if_neg (by simp)]
  by_cases e : grp xs x = grp xs y
  · rcases h4 with h4 | h4
    · rw [h4] at e; exact absurd e h3
    · omega
  · rw [if_pos e, if_neg h3]
    rcases h4 with h4 | h4
    · simp [h4]
    · simp [h4]

/-- What is shown of a group is so shown. -/
theorem shown_pw (xs : List Int) (a b : Nat) (hs : Start xs a) (hm : ∀ j, a < j → j < b → kd xs j = 3) : (shownL xs a b).Pairwise (fun x y => aheadB xs x y = true) := by
  have hmk : ∀ x y, a ≤ x → x < b → a ≤ y → y < b → kd xs x = 3 → kd xs y = 3 → lex (Kc xs) x y → aheadB xs x y = true := by
    intro x y x1 x2 y1 y2 k1 k2 hl
    have g1 := grp_of hs hm x1 x2
    have g2 := grp_of hs hm y1 y2
    have c1 := clu_of g1
    have c2 := clu_of g2
    unfold kd at k1 k2
    unfold aheadB
    rw [c1, c2, g1, g2, k1, k2, if_neg (by simp), if_neg (by simp), if_neg (by simp)]
    unfold lex Kc at hl
    by_cases e : cls (xs.getD x 0) = cls (xs.getD y 0)
    · rw [if_neg (fun hn => hn e)]; simp only [decide_eq_true_eq]; omega
    · rw [if_pos e]; simp only [decide_eq_true_eq]; omega
  have hsort : ∀ (s L : Nat), a ≤ s → s + L ≤ b → (∀ j, s ≤ j → j < s + L → kd xs j = 3) → (ssort (Kc xs) (List.range' s L)).Pairwise (fun x y => aheadB xs x y = true) := by
    intro s L h1 h2 h3
    have hp := pw_ssort (K := Kc xs) (l := List.range' s L) (List.nodup_range' (step := 1) (by omega))
    refine List.Pairwise.imp_of_mem ?_ hp
    intro x y hx hy hl
    rw [mem_ssort, List.mem_range'_1] at hx hy
    exact hmk x y (by omega) (by omega) (by omega) (by omega) (h3 x (by omega) (by omega)) (h3 y (by omega) (by omega)) hl
  unfold shownL
  by_cases hc : a < b ∧ kind (xs.getD a 0) ≠ 3
  · rw [if_pos hc, List.pairwise_cons]
    refine ⟨fun y hy => ?_, hsort (a + 1) (b - a - 1) (by omega) (by omega) (fun j h1 h2 => hm j (by omega) (by omega))⟩
    rw [mem_ssort, List.mem_range'_1] at hy
    have g1 := grp_of hs hm (Nat.le_refl a) hc.1
    have g2 := grp_of hs hm (p := y) (by omega) (by omega)
    have c1 := clu_of g1
    have c2 := clu_of g2
    have ky := hm y (by omega) (by omega)
    unfold kd at ky
    unfold aheadB
    rw [c1, c2, g1, g2, ky, if_neg (by simp), if_neg (by simp)]
    have e1 : (kind (xs.getD a 0) == 3) = false := by rw [beq_eq_false_iff_ne]; exact hc.2
    rw [e1]; rfl
  · rw [if_neg hc]
    by_cases hab : a < b
    · refine hsort a (b - a) (Nat.le_refl _) (by omega) (fun j h1 h2 => ?_)
      by_cases e : j = a
      · subst e; unfold kd
        by_cases h : kind (xs.getD j 0) = 3
        · exact h
        · exact absurd ⟨hab, h⟩ hc
      · exact hm j (by omega) (by omega)
    · have : b - a = 0 := by omega
      rw [this]; simp [ssort]
theorem mem_shown {xs : List Int} {a b x : Nat} : x ∈ shownL xs a b ↔ a ≤ x ∧ x < b := by
  unfold shownL
  split
  · simp only [List.mem_cons, mem_ssort, List.mem_range'_1]; omega
  · simp only [mem_ssort, List.mem_range'_1]; omega

/-- What the loop of Order holds when the groups ahead of a have come. -/
structure Ord (xs : List Int) (a : Nat) (st : List Nat × (Nat × Nat)) : Prop where
  mem : ∀ x, x ∈ st.1 ↔ x < a ∧ ¬ (st.2.1 ≤ x ∧ x < st.2.2)
  pw : st.1.Pairwise (fun x y => aheadB xs x y = true)
  pend : st.2.1 < st.2.2 → st.2.2 ≤ a ∧ kd xs st.2.1 = 4 ∧ (∀ j, st.2.1 < j → j < st.2.2 → kd xs j = 3) ∧ (∃ p, Prev xs a p ∧ root xs p = st.2.1) ∧ (∀ x ∈ st.1, grp xs x ≠ st.2.1) ∧ ∀ x ∈ st.1, ∀ y, st.2.1 ≤ y → y < st.2.2 → aheadB xs x y = true
  none : ¬ st.2.1 < st.2.2 → a = 0 ∨ ∃ p, Prev xs a p ∧ kd xs (root xs p) ≠ 4
  emp : ¬ st.2.1 < st.2.2 → st.2 = (0, 0)

theorem shown_zero (xs : List Int) : shownL xs 0 0 = [] := by unfold shownL; rw [if_neg (by omega)]; simp [ssort]

/-- The waiting consonant's group put behind. -/
theorem Ord.flush {xs : List Int} {a : Nat} {st : List Nat × (Nat × Nat)} (h : Ord xs a st) :
    (∀ x, x ∈ st.1 ++ shownL xs st.2.1 st.2.2 ↔ x < a) ∧ (st.1 ++ shownL xs st.2.1 st.2.2).Pairwise (fun x y => aheadB xs x y = true) := by
  constructor
  · intro x
    rw [List.mem_append, h.mem, mem_shown]
    by_cases hp : st.2.1 < st.2.2
    · have := (h.pend hp).1; omega
    · have := h.emp hp; rw [this]; simp
  · rw [List.pairwise_append]
    refine ⟨h.pw, ?_, ?_⟩
    · by_cases hp : st.2.1 < st.2.2
      · obtain ⟨_, h2, h3, _⟩ := h.pend hp
        exact shown_pw xs _ _ (.inr (by rw [h2]; decide)) h3
      · have := h.emp hp; rw [this, shown_zero]; exact List.Pairwise.nil
    · intro x hx y hy
      rw [mem_shown] at hy
      exact (h.pend (by omega)).2.2.2.2.2 x hx y hy.1 hy.2

theorem order_fold (xs : List Int) : ∀ (gs : List (Nat × Nat)) (a : Nat) (st : List Nat × (Nat × Nat)), IsGroups xs a gs → Start xs a ∨ gs = [] → Ord xs a st →
    Ord xs xs.length (gs.foldl (ordStep xs) st)
  | [], a, st, hg, _, h => by
    simp only [IsGroups] at hg
    subst hg
    exact h
  | (a', b) :: t, a, st, hg, hs, h => by
    obtain ⟨rfl, h1, h2, h3, h4, h5⟩ := hg
    have hsa : Start xs a' := by rcases hs with hh | hh; exact hh; cases hh
    have hga : ∀ q, a' ≤ q → q < b → grp xs q = a' := fun q q1 q2 => grp_of hsa h3 q1 q2
    have hprev : Prev xs b a' := ⟨h1, hsa, h3⟩
    have hsb : Start xs b ∨ t = [] := by
      by_cases hb : b < xs.length
      · exact .inl (.inr (h4 hb))
      · right
        cases t with
        | nil => rfl
        | cons g t => obtain ⟨_, q1, q2, _⟩ := h5; omega
    simp only [List.foldl_cons]
    refine order_fold xs t b _ h5 hsb ?_
    obtain ⟨hfm, hfp⟩ := h.flush
    have hcl : ∀ q, a' ≤ q → q < b → clu xs q = if kd xs (root xs a') = 4 then root xs a' else a' := fun q q1 q2 => clu_of (hga q q1 q2)
    have hown : (kd xs a' ≠ 5 ∨ a' = 0) → ∀ q, a' ≤ q → q < b → clu xs q = a' := fun hk q q1 q2 => by
      rw [hcl q q1 q2, root_self hk]; split <;> rfl
    have hst : ordStep xs st (a', b) = (if kd xs a' = 4 then ((if kd xs a' ≠ 5 then (st.1 ++ shownL xs st.2.1 st.2.2, ((0 : Nat), (0 : Nat))) else st).1, (a', b)) else
        ((if kd xs a' ≠ 5 then (st.1 ++ shownL xs st.2.1 st.2.2, ((0 : Nat), (0 : Nat))) else st).1 ++ shownL xs a' b, (if kd xs a' ≠ 5 then (st.1 ++ shownL xs st.2.1 st.2.2, ((0 : Nat), (0 : Nat))) else st).2)) := rfl
    rw [hst]
    clear hst
    by_cases hk5 : kd xs a' = 5
    · -- a vowel's group: it is shown at once
      rw [if_neg (by rw [hk5]; decide), if_neg (by rw [hk5]; decide)]
      have hcase : ∀ x ∈ st.1, ∀ q, a' ≤ q → q < b → aheadB xs x q = true := by
        intro x hx q q1 q2
        have hxa := (h.mem x).1 hx
        have hxc := clu_le xs x
        by_cases hp : st.2.1 < st.2.2
        · obtain ⟨p1, p2, p3, ⟨p, pp, pr⟩, p5, p4⟩ := h.pend hp
          have ha0 : 0 < a' := by have := pp.lt; omega
          have hr := root_back hk5 ha0 pp.grp
          have hq : clu xs q = st.2.1 := by rw [hcl q q1 q2, hr, pr, if_pos p2]
          have hy := p4 x hx st.2.1 (Nat.le_refl _) hp
          have hgs : grp xs st.2.1 = st.2.1 := grp_of (.inr (by rw [p2]; decide)) p3 (Nat.le_refl _) hp
          have hcs : clu xs st.2.1 = st.2.1 := by
            have hrs : root xs st.2.1 = st.2.1 := root_self (.inl (by rw [p2]; decide))
            rw [clu_of hgs, hrs]; split <;> rfl
          by_cases hc : clu xs x = st.2.1
          · refine ahead_grp hc hq (p5 x hx) (.inr ?_)
            rw [hga q q1 q2]
            have := grp_le xs x
            omega
          · have : clu xs x < st.2.1 := by
              have hyc := hy
              unfold aheadB at hyc
              rw [hcs, if_pos hc] at hyc
              simpa using hyc
            exact ahead_clu (by omega)
        · have hq : clu xs q = a' := by
            rcases h.none hp with hz | ⟨p, pp, pk⟩
            · exact hown (.inr hz) q q1 q2
            · have ha0 : 0 < a' := by have := pp.lt; omega
              rw [hcl q q1 q2, root_back hk5 ha0 pp.grp, if_neg pk]
          exact ahead_clu (by omega)
      refine ⟨?_, ?_, ?_, ?_, h.emp⟩
      · intro x
        show x ∈ st.1 ++ shownL xs a' b ↔ x < b ∧ ¬ (st.2.1 ≤ x ∧ x < st.2.2)
        rw [List.mem_append, h.mem, mem_shown]
        by_cases hp : st.2.1 < st.2.2
        · have := (h.pend hp).1; omega
        · omega
      · rw [List.pairwise_append]
        exact ⟨h.pw, shown_pw xs a' b hsa h3, fun x hx y hy => by rw [mem_shown] at hy; exact hcase x hx y hy.1 hy.2⟩
      · intro hp
        obtain ⟨p1, p2, p3, ⟨p, pp, pr⟩, p5, p4⟩ := h.pend hp
        dsimp only at hp ⊢
        have ha0 : 0 < a' := by have := pp.lt; omega
        have hr := root_back hk5 ha0 pp.grp
        have hrl := root_le xs p
        have hpl := pp.lt
        refine ⟨by omega, p2, p3, ⟨a', hprev, by rw [hr, pr]⟩, ?_, ?_⟩
        · intro x hx
          rw [List.mem_append, mem_shown] at hx
          rcases hx with hx | hx
          · exact p5 x hx
          · rw [hga x hx.1 hx.2]; omega
        · intro x hx y y1 y2
          rw [List.mem_append, mem_shown] at hx
          rcases hx with hx | hx
          · exact p4 x hx y y1 y2
          · have hgy : grp xs y = st.2.1 := grp_of (.inr (by rw [p2]; decide)) p3 y1 y2
            have hrs : root xs st.2.1 = st.2.1 := root_self (.inl (by rw [p2]; decide))
            have hcy : clu xs y = st.2.1 := by rw [clu_of hgy, hrs]; split <;> rfl
            refine ahead_grp (c := st.2.1) ?_ hcy ?_ (.inl hgy)
            · rw [hcl x hx.1 hx.2, hr, pr, if_pos p2]
            · rw [hga x hx.1 hx.2]; omega
      · intro hp
        right
        refine ⟨a', hprev, ?_⟩
        rcases h.none hp with hz | ⟨p, pp, pk⟩
        · rw [root_self (.inr hz), hk5]; decide
        · have ha0 : 0 < a' := by have := pp.lt; omega
          rw [root_back hk5 ha0 pp.grp]; exact pk
    · have hlt : ∀ x, x < a' → ∀ q, a' ≤ q → q < b → aheadB xs x q = true := fun x hx q q1 q2 => by
        have := clu_le xs x
        exact ahead_clu (by rw [hown (.inl hk5) q q1 q2]; omega)
      rw [if_pos hk5]
      by_cases hk4 : kd xs a' = 4
      · rw [if_pos hk4]
        refine ⟨?_, hfp, ?_, ?_, ?_⟩
        · intro x; rw [hfm]; dsimp only; omega
        · intro _
          refine ⟨Nat.le_refl _, hk4, h3, ⟨a', hprev, root_self (.inl hk5)⟩, ?_, ?_⟩
          · intro x hx
            have := (hfm x).1 hx
            have := grp_le xs x
            dsimp only; omega
          · intro x hx y y1 y2
            exact hlt x ((hfm x).1 hx) y y1 y2
        · intro hp; exact absurd h1 hp
        · intro hp; exact absurd h1 hp
      · rw [if_neg hk4]
        refine ⟨?_, ?_, ?_, ?_, fun _ => rfl⟩
        · intro x; rw [List.mem_append, hfm, mem_shown]; dsimp only; omega
        · rw [List.pairwise_append]
          exact ⟨hfp, shown_pw xs a' b hsa h3, fun x hx y hy => by rw [mem_shown] at hy; exact hlt x ((hfm x).1 hx) y hy.1 hy.2⟩
        · intro hp; dsimp only at hp; omega
        · intro _
          exact .inr ⟨a', hprev, by rw [root_self (.inl hk5)]; exact hk4⟩

theorem order_ord (xs : List Int) : Ord xs xs.length ((groupsL xs).foldl (ordStep xs) ([], (0, 0))) := by
  refine order_fold xs (groupsL xs) 0 ([], (0, 0)) (isGroups_all xs) (.inl (.inl rfl)) ⟨fun x => by simp, List.Pairwise.nil, fun h => by simp at h, fun _ => .inl rfl, fun _ => rfl⟩
theorem order_mem (xs : List Int) (x : Nat) : x ∈ orderL xs ↔ x < xs.length := (order_ord xs).flush.1 x
theorem order_pw (xs : List Int) : (orderL xs).Pairwise (fun x y => aheadB xs x y = true) := (order_ord xs).flush.2

theorem same_len : ∀ (l1 l2 : List Nat), l1.Nodup → l2.Nodup → (∀ x, x ∈ l1 ↔ x ∈ l2) → l1.length = l2.length
  | [], l2, _, _, h => by
    cases l2 with
    | nil => rfl
    | cons b t => exact absurd ((h b).2 (by simp)) (by simp)
  | a :: t, l2, h1, h2, h => by
    rw [List.nodup_cons] at h1
    have ha : a ∈ l2 := (h a).1 (by simp)
    have ih := same_len t (l2.erase a) h1.2 (h2.erase a) (fun x => by
      rw [h2.mem_erase_iff, ← h x]
      simp only [List.mem_cons]
      constructor
      · intro hx; exact ⟨fun e => h1.1 (e ▸ hx), .inr hx⟩
      · rintro ⟨hne, hx | hx⟩
        · exact absurd hx hne
        · exact hx)
    have hl := List.length_erase_of_mem ha
    have hpos : 0 < l2.length := List.length_pos_of_mem ha
    simp only [List.length_cons]; omega
theorem order_nodup (xs : List Int) : (orderL xs).Nodup := by
  refine List.Pairwise.imp ?_ (order_pw xs)
  intro a b h e
  subst e
  have := aheadB_asymm xs _ _ h
  rw [this] at h; cases h
theorem order_length (xs : List Int) : (orderL xs).length = xs.length := by
  have := same_len (orderL xs) (List.range xs.length) (order_nodup xs) List.nodup_range (fun x => by rw [order_mem, List.mem_range])
  simpa using this

/-- A place's number in the order is how many are shown ahead of it. -/
theorem cnt_at (xs : List Int) (t i : Nat) (h : (orderL xs)[t]? = some i) : cnt xs i xs.length = t := by
  have hlt := (List.getElem?_eq_some_iff.1 h).1
  have hsplit : orderL xs = (orderL xs).take t ++ i :: (orderL xs).drop (t + 1) := by
    have e : (orderL xs)[t] = i := (List.getElem?_eq_some_iff.1 h).2
    have := (List.take_append_drop t (orderL xs)).symm
    rw [List.drop_eq_getElem_cons hlt, e] at this
    exact this
  have hpw := order_pw xs
  have hnd := order_nodup xs
  have hmem := order_mem xs
  rw [hsplit] at hpw hnd hmem
  rw [List.pairwise_append, List.pairwise_cons] at hpw
  obtain ⟨p1, ⟨p2, p3⟩, p4⟩ := hpw
  have hn1 : ((orderL xs).take t).Nodup := (List.nodup_append.1 hnd).1
  have hlen : ((orderL xs).take t).length = t := by simp; omega
  unfold cnt
  rw [← hlen]
  refine same_len _ _ (List.nodup_range.filter _) hn1 (fun x => ?_)
  rw [List.mem_filter, List.mem_range, ← hmem x]
  simp only [List.mem_append, List.mem_cons, decide_eq_true_eq]
  constructor
  · rintro ⟨hx | hx | hx, hne, ha⟩
    · exact hx
    · exact absurd hx hne
    · have := aheadB_asymm xs _ _ (p2 x hx)
      rw [this] at ha; cases ha
  · intro hx
    have ha := p4 x hx i (by simp)
    refine ⟨.inl hx, ?_, ha⟩
    intro e; subst e
    have := aheadB_asymm xs _ _ ha
    rw [this] at ha; cases ha

theorem rordTo_length (xs : List Int) (k : Nat) : (rordTo xs k).length = xs.length := by
  induction k with
  | zero => simp [rordTo]
  | succ k ih => rw [rordTo_succ]; simp [ih]
theorem cnt_inj (xs : List Int) (i j : Nat) (hi : i < xs.length) (hj : j < xs.length) (h : cnt xs i xs.length = cnt xs j xs.length) : i = j := by
  obtain ⟨t, ht⟩ := List.mem_iff_getElem?.1 ((order_mem xs i).2 hi)
  obtain ⟨u, hu⟩ := List.mem_iff_getElem?.1 ((order_mem xs j).2 hj)
  have e1 := cnt_at xs t i ht
  have e2 := cnt_at xs u j hu
  have : t = u := by omega
  subst this
  rw [ht] at hu; injection hu
theorem rordTo_at (xs : List Int) (k : Nat) (hk : k ≤ xs.length) : ∀ i, i < k → (rordTo xs k)[cnt xs i xs.length]? = some (i : Int) := by
  induction k with
  | zero => intro i hi; omega
  | succ k ih =>
    intro i hi
    rw [rordTo_succ, List.getElem?_set]
    by_cases e : i = k
    · subst e
      rw [if_pos rfl, if_pos (by rw [rordTo_length]; exact cnt_lt xs i _ (by omega))]
    · rw [if_neg (fun h => e (cnt_inj xs i k (by omega) (by omega) h.symm))]
      exact ih (by omega) i (by omega)
theorem order_eq (xs : List Int) : (orderL xs).map (fun (k : Nat) => (k : Int)) = rorder xs := by
  apply List.ext_getElem?
  intro t
  by_cases ht : t < xs.length
  · have hl := order_length xs
    have h : (orderL xs)[t]? = some ((orderL xs)[t]'(by omega)) := List.getElem?_eq_getElem (by omega)
    have hi := (order_mem xs _).1 (List.mem_of_getElem? h)
    have hc := cnt_at xs t _ h
    have h2 := rordTo_at xs xs.length (Nat.le_refl _) _ hi
    rw [hc] at h2
    unfold rorder
    rw [h2, List.getElem?_map, h]; rfl
  · rw [List.getElem?_eq_none (by simp [order_length]; omega), List.getElem?_eq_none (by unfold rorder; rw [rordTo_length]; omega)]

end Go.Proofs.Ytdacfcfgikllpaa
