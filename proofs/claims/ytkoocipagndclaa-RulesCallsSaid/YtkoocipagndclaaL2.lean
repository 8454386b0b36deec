/- Plain laws of lookups whose rules look at one item alone. -/
import Derived.Test.YtkoocipagndclaaL1
namespace Go.Proofs.Ytkoocipagndclaa
open Go.RowKit Go.Shelf

def FlatR (r : Rul) : Prop := r.inn.length = 1 ∧ r.back = [] ∧ r.ahead = []
theorem firstR_congr {p q : Rul → Bool} : ∀ {rs : List Rul} {n : Nat}, (∀ r ∈ rs, p r = q r) → firstR p rs n = firstR q rs n
  | [], _, _ => rfl
  | r :: rs, n, h => by
    rw [firstR, firstR, h r (List.mem_cons_self ..)]
    split
    · rfl
    · exact firstR_congr fun x hx => h x (List.mem_cons_of_mem _ hx)
theorem fits_flat {run : List Itm} {r : Rul} {k : Nat} {fore back : List Nat} (h : FlatR r) : fits run r (k :: fore) back = (r.inn.headD []).contains (gAt run k) := by
  obtain ⟨h1, h2, h3⟩ := h
  obtain ⟨s, hs⟩ : ∃ s, r.inn = [s] := by
    cases hi : r.inn with
    | nil => rw [hi] at h1; cases h1
    | cons s t => cases t with | nil => exact ⟨s, rfl⟩ | cons => rw [hi] at h1; simp at h1
  unfold fits
  rw [hs, h2, h3]
  simp [inSets]
/-- The rule that an item alone meets. -/
def pick (F : Fnt) (lk : Lk) (forms : List Int) (it : Itm) : Option (Nat × Rul) :=
  if !(lk.ign && isMark F it.g) && (forms.isEmpty || forms.contains it.f) then firstR (fun r => (r.inn.headD []).contains it.g) lk.rules 0 else none
theorem begL_at {F : Fnt} {ign : Bool} {run : List Itm} {k : Nat} {it : Itm} {forms : List Int} (h : run[k]? = some it) : begL F ign run (k : Int) forms = (!(ign && isMark F it.g) && (forms.isEmpty || forms.contains it.f)) := by
  have hl := (List.getElem?_eq_some_iff.1 h).1
  unfold begL seenB
  rw [Int.toNat_natCast, gAt_some h, fAt_some h]
  simp [hl]
theorem seen_at {F : Fnt} {ign : Bool} {run : List Itm} {k : Nat} {it : Itm} (h : run[k]? = some it) : seenB F ign run k = !(ign && isMark F it.g) := by unfold seenB; rw [gAt_some h]
theorem matchL_flat {F : Fnt} {lk : Lk} {run : List Itm} {k : Nat} {it : Itm} {forms : List Int} (hf : ∀ r ∈ lk.rules, FlatR r) (hk : run[k]? = some it) : matchL F lk run (k : Int) forms = (pick F lk forms it).map fun x => (x.1, [k]) := by
  have hl := (List.getElem?_eq_some_iff.1 hk).1
  unfold matchL pick
  rw [begL_at hk, Int.toNat_natCast]
  by_cases hb : (!(lk.ign && isMark F it.g) && (forms.isEmpty || forms.contains it.f)) = true
  · rw [if_pos hb, if_pos hb]
    have hs : seenB F lk.ign run k = true := by rw [seen_at hk]; exact (Bool.and_eq_true_iff.1 hb).1
    have hup : foreL F lk.ign run k = k :: upL (seenB F lk.ign run) run.length (k + 1) := upL_yes hl hs
    rw [hup, firstR_congr (q := fun r => (r.inn.headD []).contains it.g) fun r hr => by rw [fits_flat (hf r hr), gAt_some hk]]
    cases hfr : firstR (fun r => (r.inn.headD []).contains it.g) lk.rules 0 with
    | none => rfl
    | some x =>
      obtain ⟨n, r⟩ := x
      obtain ⟨_, hr, _⟩ := firstR_mem hfr
      have := (hf r (List.mem_of_getElem? hr)).1
      simp [this]
  · rw [if_neg hb, if_neg hb]; rfl
/-- What becomes of one item. -/
def oneL (w : Int → Int) (lk : Lk) (r : Rul) (it : Itm) : List Itm :=
  if lk.kind = 1 ∨ lk.kind = 5 then [match otherL r it.g with | some g => setG it g | none => it]
  else if lk.kind = 2 then r.out.map fun g => setG it g
  else if lk.kind = 3 then [match r.out with | [] => it | g :: _ => setG it g]
  else if lk.kind = 6 then [{ it with a := w (it.a + r.x) }]
  else [it]
def outI (w : Int → Int) (F : Fnt) (lk : Lk) (forms : List Int) (it : Itm) : List Itm := match pick F lk forms it with | none => [it] | some (_, r) => oneL w lk r it
theorem at_mid (a b : List Itm) (it : Itm) : (a ++ it :: b)[a.length]? = some it := by simp
theorem modify_mid (a b : List Itm) (it : Itm) (f : Itm → Itm) : (a ++ it :: b).modify a.length f = a ++ f it :: b := by
  rw [modify_at (at_mid a b it), List.set_append_right _ _ (Nat.le_refl _), Nat.sub_self]; rfl
theorem setG_self (it : Itm) : ({ it with g := it.g } : Itm) = it := rfl
theorem doL_one {w : Int → Int} {F : Fnt} {d : Nat} {lk : Lk} {r : Rul} (a b : List Itm) (it : Itm) (h4 : lk.kind ≠ 4) (hlim : lk.kind = 2 → a.length + r.out.length + b.length ≤ 500) :
    doL w F d lk r [a.length] (a ++ it :: b) = a ++ oneL w lk r it ++ b := by
  by_cases k1 : lk.kind = 1 ∨ lk.kind = 5
  · rw [doL_single k1]
    unfold singleL oneL
    rw [if_pos k1, List.headD_cons, gAt_some (at_mid a b it)]
    cases otherL r it.g with
    | none => simp
    | some g => simp only; rw [modify_mid]; simp
  by_cases k2 : lk.kind = 2
  · rw [doL_mult k2]
    unfold multL oneL
    rw [if_neg k1, if_pos k2, List.headD_cons]
    have := hlim k2
    rw [if_neg (by simp; omega)]
    have hd : (a ++ it :: b).getD a.length default = it := by simp [List.getD_eq_getElem?_getD]
    rw [hd]
    simp
  by_cases k3 : lk.kind = 3
  · rw [doL_lig k3]
    unfold oneL
    rw [if_neg k1, if_neg k2, if_pos k3]
    cases r.out with
    | nil => simp
    | cons g t =>
      simp only
      unfold joinL
      dsimp only
      have hc : cAt (a ++ it :: b) a.length = it.c := cAt_some (at_mid a b it)
      simp only [List.foldl_cons, List.foldl_nil, List.foldr_nil, hc]
      rw [modify_mid]
      simp [setG, Int.min_self]
  by_cases k6 : lk.kind = 6
  · rw [doL_pair' k6]
    unfold pairL oneL
    rw [if_neg k1, if_neg k2, if_neg k3, if_pos k6, List.headD_cons, modify_mid]
    simp
  rw [doL_other (by omega)]
  unfold oneL
  rw [if_neg k1, if_neg k2, if_neg k3, if_neg k6]
  simp
theorem on_flat {w : Int → Int} {F : Fnt} {lk : Lk} {forms : List Int} (hf : ∀ r ∈ lk.rules, FlatR r) (h4 : lk.kind ≠ 4) (m : Nat) (hm1 : 1 ≤ m) (hm : lk.kind = 2 → ∀ r ∈ lk.rules, r.out.length ≤ m) :
    ∀ (rest done : List Itm) (fuel : Nat), rest.length ≤ fuel → (lk.kind = 2 → done.length + m * rest.length ≤ 500) → onL w F lk forms fuel (done ++ rest) done.length = done ++ rest.flatMap (outI w F lk forms) := by
  intro rest
  induction rest with
  | nil =>
    intro done fuel _ _
    cases fuel with
    | zero => simp [onL]
    | succ fuel => rw [onL]; simp
  | cons it rest ih =>
    intro done fuel hfu hlim
    obtain ⟨fuel, rfl⟩ : ∃ x, fuel = x + 1 := ⟨fuel - 1, by simp at hfu; omega⟩
    have hmt := matchL_flat (F := F) (forms := forms) hf (at_mid done rest it)
    rw [onL, if_pos (by simp), hmt]
    simp only [List.length_cons] at hfu
    rw [List.flatMap_cons]
    cases hp : pick F lk forms it with
    | none =>
      have ho : outI w F lk forms it = [it] := by unfold outI; rw [hp]
      simp only [Option.map_none]
      rw [ho, show done ++ it :: rest = (done ++ [it]) ++ rest by simp, show done.length + 1 = (done ++ [it]).length by simp, ih (done ++ [it]) fuel (by omega) (fun h => by have := hlim h; simp only [List.length_cons, Nat.mul_add, Nat.mul_one] at this; simp; omega)]
      simp
    | some x =>
      obtain ⟨n, r⟩ := x
      have ho : outI w F lk forms it = oneL w lk r it := by unfold outI; rw [hp]
      have hr : lk.rules[n]? = some r := by
        unfold pick at hp
        split at hp
        · obtain ⟨_, h, _⟩ := firstR_mem hp; simpa using h
        · cases hp
      have hgr : lk.rules.getD n default = r := by simp [hr]
      have hrm := List.mem_of_getElem? hr
      simp only [Option.map_some]
      rw [hgr, doL_one done rest it h4 (fun h => by
        have h1 := hlim h; have h2 := hm h r hrm
        simp only [List.length_cons, Nat.mul_add, Nat.mul_one] at h1
        have : rest.length ≤ m * rest.length := Nat.le_mul_of_pos_left _ (by omega)
        omega)]
      have hnx : nextL lk [done.length] done.length (done ++ it :: rest).length (done ++ oneL w lk r it ++ rest).length = (done ++ oneL w lk r it).length := by
        unfold nextL
        simp only [List.getLastD_cons, List.getLastD_nil, List.length_append, List.length_cons, List.length_nil]
        rw [if_neg h4, if_neg (by omega)]
        omega
      rw [hnx, ho, ih (done ++ oneL w lk r it) fuel (by omega) (fun h => by
        have h1 := hlim h; have h2 := hm h r hrm
        simp only [List.length_cons, Nat.mul_add, Nat.mul_one] at h1
        have h3 : (oneL w lk r it).length = r.out.length := by unfold oneL; rw [if_neg (by omega), if_pos h]; simp
        rw [List.length_append, h3]; omega)]
      simp
theorem one_len {w : Int → Int} {lk : Lk} {r : Rul} {it : Itm} (h : lk.kind ≠ 2) : ∃ x, oneL w lk r it = [x] := by
  unfold oneL
  split
  · exact ⟨_, rfl⟩
  · (try rw [if_neg h])
    split
    · exact ⟨_, rfl⟩
    · split <;> exact ⟨_, rfl⟩
theorem bw_flat {w : Int → Int} {F : Fnt} {lk : Lk} {forms : List Int} (hf : ∀ r ∈ lk.rules, FlatR r) (h4 : lk.kind ≠ 4) (h2 : lk.kind ≠ 2) :
    ∀ (k : Nat) (pre done : List Itm), pre.length = k → bwL w F lk forms k (pre ++ done) = pre.flatMap (outI w F lk forms) ++ done := by
  intro k
  induction k with
  | zero => intro pre done h; rw [List.eq_nil_of_length_eq_zero h]; rfl
  | succ k ih =>
    intro pre done h
    obtain ⟨p, it, rfl⟩ : ∃ p it, pre = p ++ [it] := ⟨pre.dropLast, pre.getLast (by intro e; rw [e] at h; simp at h), (List.dropLast_concat_getLast _).symm⟩
    have hpk : p.length = k := by simpa using h
    subst hpk
    have hmt := matchL_flat (F := F) (forms := forms) hf (at_mid p done it)
    rw [bwL, List.append_assoc, List.singleton_append, hmt, List.flatMap_append]
    cases hp : pick F lk forms it with
    | none =>
      have ho : outI w F lk forms it = [it] := by unfold outI; rw [hp]
      simp only [Option.map_none]
      rw [ih p (it :: done) rfl]
      simp [ho]
    | some x =>
      obtain ⟨n, r⟩ := x
      have ho : outI w F lk forms it = oneL w lk r it := by unfold outI; rw [hp]
      have hr : lk.rules[n]? = some r := by
        unfold pick at hp
        split at hp
        · obtain ⟨_, h, _⟩ := firstR_mem hp; simpa using h
        · cases hp
      have hgr : lk.rules.getD n default = r := by simp [hr]
      simp only [Option.map_some]
      rw [hgr, doL_one p done it h4 (fun h => absurd h h2)]
      obtain ⟨x, hx⟩ := one_len (w := w) (r := r) (it := it) h2
      rw [List.append_assoc, ih p (oneL w lk r it ++ done) rfl]
      simp [ho]
/-- What a lookup whose rules look at one item alone does with a run: item by item. -/
theorem apply_flat {w : Int → Int} {F : Fnt} {n : Int} {lk : Lk} {run : List Itm} {forms : List Int} (hl : lkAt F n = some lk) (hf : ∀ r ∈ lk.rules, FlatR r) (h1 : 1 ≤ lk.kind) (h6 : lk.kind ≤ 6) (h4 : lk.kind ≠ 4) (m : Nat) (hm1 : 1 ≤ m) (hm : lk.kind = 2 → ∀ r ∈ lk.rules, r.out.length ≤ m) (hlim : lk.kind = 2 → m * run.length ≤ 500) :
    applyL w F n run forms = run.flatMap (outI w F lk forms) := by
  unfold applyL
  rw [hl]
  simp only
  rw [if_neg (by omega)]
  by_cases h5 : lk.kind = 5
  · rw [if_pos h5]
    have := bw_flat (w := w) (F := F) (forms := forms) hf h4 (by omega) run.length run [] rfl
    simpa using this
  · rw [if_neg h5]
    have := on_flat (w := w) (F := F) (forms := forms) hf h4 m hm1 hm run [] run.length (Nat.le_refl _) (fun h => by have := hlim h; simpa using this)
    simpa using this

/-- RulesReverse: from the first item on, or from the last one back. -/
theorem reverse_law {w : Int → Int} {F F' : Fnt} {n : Int} {lk : Lk} {run : List Itm} {forms : List Int} (h1 : lkAt F n = some { lk with kind := 1 }) (h5 : lkAt F' n = some { lk with kind := 5 }) (hg : F'.gly = F.gly) (hf : ∀ r ∈ lk.rules, FlatR r) :
    applyL w F n run forms = applyL w F' n run forms ∧ (applyL w F n run forms).length = run.length := by
  have e1 := apply_flat (w := w) (run := run) (forms := forms) h1 hf (by show (1 : Int) ≤ 1; omega) (by show (1 : Int) ≤ 6; omega) (by show (1 : Int) ≠ 4; omega) 1 (by omega) (fun h => by exact absurd h (by show ¬ (1 : Int) = 2; omega)) (fun h => absurd h (by show ¬ (1 : Int) = 2; omega))
  have e2 := apply_flat (w := w) (run := run) (forms := forms) h5 hf (by show (1 : Int) ≤ 5; omega) (by show (5 : Int) ≤ 6; omega) (by show (5 : Int) ≠ 4; omega) 1 (by omega) (fun h => by exact absurd h (by show ¬ (5 : Int) = 2; omega)) (fun h => absurd h (by show ¬ (5 : Int) = 2; omega))
  have hmk : ∀ g, isMark F' g = isMark F g := fun g => by unfold isMark; rw [hg]
  have eo : outI w F' { lk with kind := 5 } forms = outI w F { lk with kind := 1 } forms := by
    funext it
    have hp : pick F' { lk with kind := 5 } forms it = pick F { lk with kind := 1 } forms it := by unfold pick; simp only [hmk]
    have ho : ∀ r, oneL w { lk with kind := 5 } r it = oneL w { lk with kind := 1 } r it := fun r => by unfold oneL; simp
    unfold outI
    rw [hp]
    simp only [ho]
  refine ⟨by rw [e1, e2, eo], ?_⟩
  rw [e1]
  have hone : ∀ it, (outI w F { lk with kind := 1 } forms it).length = 1 := fun it => by
    unfold outI
    split
    · rfl
    · rename_i r h
      obtain ⟨x, hx⟩ := one_len (w := w) (lk := { lk with kind := 1 }) (r := r) (it := it) (by show (1 : Int) ≠ 2; omega)
      rw [hx]; rfl
  clear e1 e2 eo
  induction run with
  | nil => rfl
  | cons it run ih => rw [List.flatMap_cons, List.length_append, hone, ih, List.length_cons]; omega

/-- RulesSplit: parts of a run become what the whole does. -/
theorem split_law {w : Int → Int} {F : Fnt} {n : Int} {lk : Lk} {a b : List Itm} {forms : List Int} (hl : lkAt F n = some lk) (hf : ∀ r ∈ lk.rules, FlatR r) (h4 : lk.kind ≠ 4) (ho : ∀ r ∈ lk.rules, r.out.length ≤ 8) (hlen : (a ++ b).length ≤ 60) :
    applyL w F n (a ++ b) forms = applyL w F n a forms ++ applyL w F n b forms := by
  by_cases hk : lk.kind < 1 ∨ 6 < lk.kind
  · have e : ∀ run, applyL w F n run forms = run := fun run => by unfold applyL; rw [hl]; simp only; rw [if_pos hk]
    rw [e, e, e]
  · have hlen' := hlen
    rw [List.length_append] at hlen'
    rw [apply_flat hl hf (by omega) (by omega) h4 8 (by omega) (fun _ => ho) (fun _ => by omega), apply_flat hl hf (by omega) (by omega) h4 8 (by omega) (fun _ => ho) (fun _ => by omega), apply_flat hl hf (by omega) (by omega) h4 8 (by omega) (fun _ => ho) (fun _ => by omega), List.flatMap_append]

end Go.Proofs.Ytkoocipagndclaa
