/- Plain laws of lookups whose rules look at one item alone. -/
import Derived.Test.YtkoocipagndclaaL1
namespace Go.Proofs.Ytkoocipagndclaa
open Go.RowKit Go.Shelf

def FlatR (r : Rul) : Prop := r.inn.length = 1 ∧ r.back = [] ∧ r.ahead = []
theorem firstR_congr {p q : Rul → Bool} : ∀ {rs : List Rul} {n : Nat}, (∀ r ∈ rs, p r = q r) → firstR p rs n = firstR q rs n
  | [], _, _ => rfl
  | r :: rs, n, h => by
    rw [firstR, firstR, h r (List.mem_cons_self ..)]
    split
    · rfl
    · exact firstR_congr fun x hx => h x (List.mem_cons_of_mem _ hx)
theorem fits_flat {run : List Itm} {r : Rul} {k : Nat} {fore back : List Nat} (h : FlatR r) : fits run r (k :: fore) back = (r.inn.headD []).contains (gAt run k) := by
  obtain ⟨h1, h2, h3⟩ := h
  obtain ⟨s, hs⟩ : ∃ s, r.inn = [s] := by
    cases hi : r.inn with
    | nil => rw [hi] at h1; cases h1
    | cons s t => cases t with | nil => exact ⟨s, rfl⟩ | cons => rw [hi] at h1; simp at h1
  unfold fits
  rw [hs, h2, h3]
  simp [inSets]
/-- The rule that an item alone meets. -/
def pick (F : Fnt) (lk : Lk) (forms : List Int) (it : Itm) : Option (Nat × Rul) :=
  if !(lk.ign && isMark F it.g) && (forms.isEmpty || forms.contains it.f) then firstR (fun r => (r.inn.headD []).contains it.g) lk.rules 0 else none
theorem begL_at {F : Fnt} {ign : Bool} {run : List Itm} {k : Nat} {it : Itm} {forms : List Int} (h : run[k]? = some it) : begL F ign run (k : Int) forms = (!(ign && isMark F it.g) && (forms.isEmpty || forms.contains it.f)) := by
  have hl := (List.getElem?_eq_some_iff.1 h).1
  unfold begL seenB
  rw [Int.toNat_natCast, gAt_some h, fAt_some h]
  simp [hl]
theorem seen_at {F : Fnt} {ign : Bool} {run : List Itm} {k : Nat} {it : Itm} (h : run[k]? = some it) : seenB F ign run k = !(ign && isMark F it.g) := by unfold seenB; rw [gAt_some h]
theorem matchL_flat {F : Fnt} {lk : Lk} {run : List Itm} {k : Nat} {it : Itm} {forms : List Int} (hf : ∀ r ∈ lk.rules, FlatR r) (hk : run[k]? = some it) : matchL F lk run (k : Int) forms = (pick F lk forms it).map fun x => (x.1, [k]) := by
  have hl := (List.getElem?_eq_some_iff.1 hk).1
  unfold matchL pick
  rw [begL_at hk, Int.toNat_natCast]
  by_cases hb : (!(lk.ign && isMark F it.g) && (forms.isEmpty || forms.contains it.f)) = true
  · rw [if_pos hb, if_pos hb]
    have hs : seenB F lk.ign run k = true := by rw [seen_at hk]; exact (Bool.and_eq_true_iff.1 hb).1
    have hup : foreL F lk.ign run k = k :: upL (seenB F lk.ign run) run.length (k + 1) := upL_yes hl hs
    rw [hup, firstR_congr (q := fun r => (r.inn.headD []).contains it.g) fun r hr => by rw [fits_flat (hf r hr), gAt_some hk]]
    cases hfr : firstR (fun r => (r.inn.headD []).contains it.g) lk.rules 0 with
    | none => rfl
    | some x =>
      obtain ⟨n, r⟩ := x
      obtain ⟨_, hr, _⟩ := firstR_mem hfr
      have := (hf r (List.mem_of_getElem? hr)).1
      simp [this]
  · rw [if_neg hb, if_neg hb]; rfl
/-- What becomes of one item. -/
def oneL (w : Int → Int) (lk : Lk) (r : Rul) (it : Itm) : List Itm :=
  if lk.kind = 1 ∨ lk.kind = 5 then [match otherL r it.g with | some g => setG it g | none => it]
  else if lk.kind = 2 then r.out.map fun g => setG it g
  else if lk.kind = 3 then [match r.out with | [] => it | g :: _ => setG it g]
  else if lk.kind = 6 then [{ it with a := w (it.a + r.x) }]
  else [it]
def outI (w : Int → Int) (F : Fnt) (lk : Lk) (forms : List Int) (it : Itm) : List Itm := match pick F lk forms it with | none => [it] | some (_, r) => oneL w lk r it
theorem at_mid (a b : List Itm) (it : Itm) : (a ++ it :: b)[a.length]? = some it := by simp
theorem modify_mid (a b : List Itm) (it : Itm) (f : Itm → Itm) : (a ++ it :: b).modify a.length f = a ++ f it :: b := by
  rw [modify_at (at_mid a b it), List.set_append_right _ _ (Nat.le_refl _), Nat.sub_self]; rfl
theorem setG_self (it : Itm) : ({ it with g := it.g } : Itm) = it := rfl
theorem doL_one {w : Int → Int} {F : Fnt} {d : Nat} {lk : Lk} {r : Rul} (a b : List Itm) (it : Itm) (h4 : lk.kind ≠ 4) (hlim : lk.kind = 2 → a.length + r.out.length + b.length ≤ 500) :
    doL w F d lk r [a.length] (a ++ it :: b) = a ++ oneL w lk r it ++ b := by
  by_cases k1 : lk.kind = 1 ∨ lk.kind = 5
  · rw [doL_single k1]
    unfold singleL oneL
    rw [if_pos k1, List.headD_cons, gAt_some (at_mid a b it)]
    cases otherL r it.g with
    | none => simp
    | some g => simp only; rw [modify_mid]; simp
  by_cases k2 : lk.kind = 2
  · rw [doL_mult k2]
    unfold multL oneL
    rw [if_neg k1, if_pos k2, List.headD_cons]
    have := hlim k2
    rw [if_neg (by simp; omega)]
    have hd : (a ++ it :: b).getD a.length default = it := by simp [List.getD_eq_getElem?_getD]
    rw [hd]
    simp
  by_cases k3 : lk.kind = 3
  · rw [doL_lig k3]
    unfold oneL
    rw [if_neg k1, if_neg k2, if_pos k3]
    cases r.out with
    | nil => simp
    | cons g t =>
      simp only
      unfold joinL
      dsimp only
      have hc : cAt (a ++ it :: b) a.length = it.c := cAt_some (at_mid a b it)
      simp only [List.foldl_cons, List.foldl_nil, List.foldr_nil, hc]
      rw [modify_mid]
      simp [setG, Int.min_self]
  by_cases k6 : lk.kind = 6
  · rw [doL_pair' k6]
    unfold pairL oneL
    rw [if_neg k1, if_neg k2, if_neg k3, if_pos k6, List.headD_cons, modify_mid]
    simp
  rw [doL_other (by omega)]
  unfold oneL
  rw [if_neg k1, if_neg k2, if_neg k3, if_neg k6]
  simp
theorem on_flat {w : Int → Int} {F : Fnt} {lk : Lk} {forms : List Int} (hf : ∀ r ∈ lk.rules, FlatR r) (h4 : lk.kind ≠ 4) (m : Nat) (hm1 : 1 ≤ m) (hm : lk.kind = 2 → ∀ r ∈ lk.rules, r.out.length ≤ m) :
    ∀ (rest done : List Itm) (fuel : Nat), rest.length ≤ fuel → (lk.kind = 2 → done.length + m * rest.length ≤ 500) → onL w F lk forms fuel (done ++ rest) done.length = done ++ rest.flatMap (outI w F lk forms) := by
  intro rest
  induction rest with
  | nil =>
    intro done fuel _ _
    cases fuel with
    | zero => simp [onL]
    | succ fuel => rw [onL]; simp
  | cons it rest ih =>
    intro done fuel hfu hlim
    obtain ⟨fuel, rfl⟩ : ∃ x, fuel = x + 1 := ⟨fuel - 1, by simp at hfu; omega⟩
    have hmt := matchL_flat (F := F) (forms := forms) hf (at_mid done rest it)
    rw [onL, if_pos (by simp), hmt]
    simp only [List.length_cons] at hfu
    rw [List.flatMap_cons]
    cases hp : pick F lk forms it with
    | none =>
      have ho : outI w F lk forms it = [it] := by unfold outI; rw [hp]
      simp only [Option.map_none]
      rw [ho, show done ++ it :: rest = (done ++ [it]) ++ rest by simp, show done.length + 1 = (done ++ [it]).length by simp, ih (done ++ [it]) fuel (by omega) (fun h => by have := hlim h; simp only [List.length_cons, Nat.mul_add, Nat.mul_one] at this; simp; omega)]
      simp
    | some x =>
      obtain ⟨n, r⟩ := x
      have ho : outI w F lk forms it = oneL w lk r it := by unfold outI; rw [hp]
      have hr : lk.rules[n]? = some r := by
        unfold pick at hp
        split at hp
        · obtain ⟨_, h, _⟩ := firstR_mem hp; simpa using h
        · cases hp
      have hgr : lk.rules.getD n default = r := by simp [hr]
      have hrm := List.mem_of_getElem? hr
      simp only [Option.map_some]
      rw [hgr, doL_one done rest it h4 (fun h => by
        have h1 := hlim h; have h2 := hm h r hrm
        simp only [List.length_cons, Nat.mul_add, Nat.mul_one] at h1
        have : rest.length ≤ m * rest.length := Nat.le_mul_of_pos_left _ (by omega)
        omega)]
      have hnx : nextL lk [done.length] done.length (done ++ it :: rest).length (done ++ oneL w lk r it ++ rest).length = (done ++ oneL w lk r it).length := by
        unfold nextL
        simp only [List.getLastD_cons, List.getLastD_nil, List.length_append, List.length_cons, List.length_nil]
        rw [if_neg h4, if_neg (by omega)]
        omega
      rw [hnx, ho, ih (done ++ oneL w lk r it) fuel (by omega) (fun h => by
        have h1 := hlim h; have h2 := hm h r hrm
        simp only [List.length_cons, Nat.mul_add, Nat.mul_one] at h1
        have h3 : (oneL w lk r it).length = r.out.length := by unfold oneL; rw [if_neg (by omega), if_pos h]; simp
        rw [List.length_append, h3]; omega)]
      simp
theorem one_len {w : Int → Int} {lk : Lk} {r : Rul} {it : Itm} (h : lk.kind ≠ 2) : ∃ x, oneL w lk r it = [x] := by
  unfold oneL
  split
  · exact ⟨_, rfl⟩
  · (try rw [if_neg h])
    split
    · exact ⟨_, rfl⟩
    · split <;> exact ⟨_, rfl⟩
theorem bw_flat {w : Int → Int} {F : Fnt} {lk : Lk} {forms : List Int} (hf : ∀ r ∈ lk.rules, FlatR r) (h4 : lk.kind ≠ 4) (h2 : lk.kind ≠ 2) :
    ∀ (k : Nat) (pre done : List Itm), pre.length = k → bwL w F lk forms k (pre ++ done) = pre.flatMap (outI w F lk forms) ++ done := by
  intro k
  induction k with
  | zero => intro pre done h; rw [List.eq_nil_of_length_eq_zero h]; rfl
  | succ k ih =>
    intro pre done h
    obtain ⟨p, it, rfl⟩ : ∃ p it, pre = p ++ [it] := ⟨pre.dropLast, pre.getLast (by intro e; rw [e] at h; simp at h), (List.dropLast_concat_getLast _).symm⟩
    have hpk : p.length = k := by simpa using h
    subst hpk
    have hmt := matchL_flat (F := F) (forms := forms) hf (at_mid p done it)
    rw [bwL, List.append_assoc, List.singleton_append, hmt, List.flatMap_append]
    cases hp : pick F lk forms it with
    | none =>
      have ho : outI w F lk forms it = [it] := by unfold outI; rw [hp]
      simp only [Option.map_none]
      rw [ih p (it :: done) rfl]
      simp [ho]
    | some x =>
      obtain ⟨n, r⟩ := x
      have ho : outI w F lk forms it = oneL w lk r it := by unfold outI; rw [hp]
      have hr : lk.rules[n]? = some r := by
        unfold pick at hp
        split at hp
        · obtain ⟨_, h, _⟩ := firstR_mem hp; simpa using h
        · cases hp
      have hgr : lk.rules.getD n default = r := by simp [hr]
      simp only [Option.map_some]
      rw [hgr, doL_one p done it h4 (fun h => absurd h h2)]
      obtain ⟨x, hx⟩ := one_len (w := w) (r := r) (it := it) h2
      rw [List.append_assoc, ih p (oneL w lk r it ++ done) rfl]
      simp [ho]
/-- What a lookup whose rules look at one item alone does with a run: item by item. -/
theorem apply_flat {w : Int → Int} {F : Fnt} {n : Int} {lk : Lk} {run : List Itm} {forms : List Int} (hl : lkAt F n = some lk) (hf : ∀ r ∈ lk.rules, FlatR r) (h1 : 1 ≤ lk.kind) (h6 : lk.kind ≤ 6) (h4 : lk.kind ≠ 4) (m : Nat) (hm1 : 1 ≤ m) (hm : lk.kind = 2 → ∀ r ∈ lk.rules, r.out.length ≤ m) (hlim : lk.kind = 2 → m * run.length ≤ 500) :
    applyL w F n run forms = run.flatMap (outI w F lk forms) := by
  unfold applyL
  rw [hl]
  simp only
  rw [if_neg (by omega)]
  by_cases h5 : lk.kind = 5
  · rw [if_pos h5]
    have := bw_flat (w := w) (F := F) (forms := forms) hf h4 (by omega) run.length run [] rfl
    simpa using this
  · rw [if_neg h5]
    have := on_flat (w := w) (F := F) (forms := forms) hf h4 m hm1 hm run [] run.length (Nat.le_refl _) (fun h => by have := hlim h; simpa using this)
    simpa using this

/-- RulesReverse: from the first item on, or from the last one back. -/
theorem reverse_law {w : Int → Int} {F F' : Fnt} {n : Int} {lk : Lk} {run : List Itm} {forms : List Int} (h1 : lkAt F n = some { lk with kind := 1 }) (h5 : lkAt F' n = some { lk with kind := 5 }) (hg : F'.gly = F.gly) (hf : ∀ r ∈ lk.rules, FlatR r) :
    applyL w F n run forms = applyL w F' n run forms ∧ (applyL w F n run forms).length = run.length := by
  have e1 := apply_flat (w := w) (run := run) (forms := forms) h1 hf (by show (1 : Int) ≤ 1; omega) (by show (1 : Int) ≤ 6; omega) (by show (1 : Int) ≠ 4; omega) 1 (by omega) (fun h => by exact absurd h (by show ¬ (1 : Int) = 2; omega)) (fun h => absurd h (by show ¬ (1 : Int) = 2; omega))
  have e2 := apply_flat (w := w) (run := run) (forms := forms) h5 hf (by show (1 : Int) ≤ 5; omega) (by show (5 : Int) ≤ 6; omega) (by show (5 : Int) ≠ 4; omega) 1 (by omega) (fun h => by exact absurd h (by show ¬ (5 : Int) = 2; omega)) (fun h => absurd h (by show ¬ (5 : Int) = 2; omega))
  have hmk : ∀ g, isMark F' g = isMark F g := fun g => by unfold isMark; rw [hg]
  have eo : outI w F' { lk with kind := 5 } forms = outI w F { lk with kind := 1 } forms := by
    funext it
    have hp : pick F' { lk with kind := 5 } forms it = pick F { lk with kind := 1 } forms it := by unfold pick; simp only [hmk]
    have ho : ∀ r, oneL w { lk with kind := 5 } r it = oneL w { lk with kind := 1 } r it := fun r => by unfold oneL; simp
    unfold outI
    rw [hp]
    simp only [ho]
  refine ⟨by rw [e1, e2, eo], ?_⟩
  rw [e1]
  have hone : ∀ it, (outI w F { lk with kind := 1 } forms it).length = 1 := fun it => by
    unfold outI
    split
    · rfl
    · rename_i r h
      obtain ⟨x, hx⟩ := one_len (w := w) (lk := { lk with kind := 1 }) (r := r) (it := it) (by show (1 : Int) ≠ 2; omega)
      rw [hx]; rfl
  clear e1 e2 eo
  induction run with
  | nil => rfl
  | cons it run ih => rw [List.flatMap_cons, List.length_append, hone, ih, List.length_cons]; omega

/-- RulesSplit: parts of a run become what the whole does. -/
theorem split_law {w : Int → Int} {F : Fnt} {n : Int} {lk : Lk} {a b : List Itm} {forms : List Int} (hl : lkAt F n = some lk) (hf : ∀ r ∈ lk.rules, FlatR r) (h4 : lk.kind ≠ 4) (ho : ∀ r ∈ lk.rules, r.out.length ≤ 8) (hlen : (a ++ b).length ≤ 60) :
    applyL w F n (a ++ b) forms = applyL w F n a forms ++ applyL w F n b forms := by
  by_cases hk : lk.kind < 1 ∨ 6 < lk.kind
  · have e : ∀ run, applyL w F n run forms = run := fun run => by unfold applyL; rw [hl]; simp only; rw [if_pos hk]
    rw [e, e, e]
  · have hlen' := hlen
    rw [List.length_append] at hlen'
    rw [apply_flat hl hf (by omega) (by omega) h4 8 (by omega) (fun _ => ho) (fun _ => by omega), apply_flat hl hf (by omega) (by omega) h4 8 (by omega) (fun _ => ho) (fun _ => by omega), apply_flat hl hf (by omega) (by omega) h4 8 (by omega) (fun _ => ho) (fun _ => by omega), List.flatMap_append]


def nm (F : Fnt) (it : Itm) : Bool := !isMark F it.g
def fgl (F : Fnt) (l : List Itm) : List Int := (l.filter (nm F)).map (·.g)
def inG : List (List Int) → List Int → Bool
  | [], _ => true
  | s :: ss, g :: gs => s.contains g && inG ss gs
  | _ :: _, [] => false
theorem inSets_inG (run : List Itm) : ∀ (ss : List (List Int)) (ps : List Nat), inSets run ss ps = inG ss (ps.map (gAt run))
  | [], _ => rfl
  | s :: ss, [] => rfl
  | s :: ss, p :: ps => by rw [inSets_cons, List.map_cons, inG, inSets_inG run ss ps]
def fitsG (r : Rul) (fore back : List Int) : Bool :=
  !r.inn.isEmpty && decide (r.inn.length + r.ahead.length ≤ fore.length) && decide (r.back.length ≤ back.length) && (inG r.inn fore && (inG r.ahead (fore.drop r.inn.length) && inG r.back back))
theorem fits_fitsG (run : List Itm) (r : Rul) (fore back : List Nat) : fits run r fore back = fitsG r (fore.map (gAt run)) (back.map (gAt run)) := by
  unfold fits fitsG
  rw [inSets_inG, inSets_inG, inSets_inG, List.map_drop, List.length_map, List.length_map]
theorem seen_nm {F : Fnt} {run : List Itm} {k : Nat} {it : Itm} (h : run[k]? = some it) : seenB F true run k = nm F it := by rw [seen_at h]; rfl
theorem up_glyphs (F : Fnt) (run : List Itm) : ∀ (m k : Nat), run.length - k = m → (upL (seenB F true run) run.length k).map (gAt run) = fgl F (run.drop k) := by
  intro m
  induction m with
  | zero => intro k h; rw [upL_end (by omega), List.drop_eq_nil_of_le (by omega)]; rfl
  | succ m ih =>
    intro k h
    have hk : k < run.length := by omega
    have hit : run[k]? = some run[k] := List.getElem?_eq_getElem hk
    rw [upL_step hk, List.drop_eq_getElem_cons hk, seen_nm hit]
    unfold fgl
    rw [List.filter_cons]
    have := ih (k + 1) (by omega)
    unfold fgl at this
    split
    · rw [List.map_cons, List.map_cons, this, gAt_some hit]
    · exact this
theorem dn_glyphs (F : Fnt) (run : List Itm) : ∀ k, k ≤ run.length → (dnL (seenB F true run) k).map (gAt run) = fgl F (run.take k).reverse := by
  intro k
  induction k with
  | zero => intro _; rfl
  | succ k ih =>
    intro h
    have hit : run[k]? = some run[k] := List.getElem?_eq_getElem (by omega)
    rw [dnL, seen_nm hit, List.take_add_one, hit]
    have := ih (by omega)
    unfold fgl at this ⊢
    rw [List.reverse_append]
    show _ = ((run[k] :: (run.take k).reverse).filter (nm F)).map _
    rw [List.filter_cons]
    split
    · rw [List.map_cons, List.map_cons, this, gAt_some hit]
    · exact this
/-- What a rule makes of a glyph. -/
def sgl (r : Rul) (it : Itm) : Itm := match otherL r it.g with | some g => setG it g | none => it
def newM (F : Fnt) (lk : Lk) (forms : List Int) (bs fs : List Int) (it : Itm) : Itm :=
  if nm F it && (forms.isEmpty || forms.contains it.f) then
    match firstR (fun r => fitsG r (it.g :: fs) bs) lk.rules 0 with
    | some (_, r) => sgl r it
    | none => it
  else it
theorem newM_mark {F : Fnt} {lk : Lk} {forms : List Int} {bs fs : List Int} {it : Itm} (h : nm F it = false) : newM F lk forms bs fs it = it := by unfold newM; rw [h]; rfl
theorem step_marks {w : Int → Int} {F : Fnt} {lk : Lk} {forms : List Int} (hk : lk.kind = 1 ∨ lk.kind = 5) (hi : lk.ign = true) (hin : ∀ r ∈ lk.rules, r.inn.length ≤ 1) (a b : List Itm) (it : Itm) :
    match matchL F lk (a ++ it :: b) (a.length : Int) forms with
    | none => newM F lk forms (fgl F a.reverse) (fgl F b) it = it
    | some (n, ps) => ps = [a.length] ∧ doL w F 4 lk (lk.rules.getD n default) ps (a ++ it :: b) = a ++ newM F lk forms (fgl F a.reverse) (fgl F b) it :: b := by
  have hat := at_mid a b it
  have hfore : nm F it = true → (foreL F true (a ++ it :: b) a.length).map (gAt (a ++ it :: b)) = it.g :: fgl F b := fun h => by
    unfold foreL
    rw [up_glyphs F _ _ a.length rfl, List.drop_left]
    unfold fgl
    rw [List.filter_cons, if_pos h, List.map_cons]
  have hback : (backL F true (a ++ it :: b) a.length).map (gAt (a ++ it :: b)) = fgl F a.reverse := by
    unfold backL
    rw [dn_glyphs F _ a.length (by simp), List.take_left]
  unfold matchL
  rw [begL_at hat, hi, Int.toNat_natCast]
  rw [show (!(true && isMark F it.g)) = nm F it from rfl]
  unfold newM
  by_cases hb : (nm F it && (forms.isEmpty || forms.contains it.f)) = true
  · rw [if_pos hb, if_pos hb]
    have hn := (Bool.and_eq_true_iff.1 hb).1
    have hc : firstR (fun r => fits (a ++ it :: b) r (foreL F true (a ++ it :: b) a.length) (backL F true (a ++ it :: b) a.length)) lk.rules 0 = firstR (fun r => fitsG r (it.g :: fgl F b) (fgl F a.reverse)) lk.rules 0 :=
      firstR_congr fun r _ => by rw [fits_fitsG, hfore hn, hback]
    rw [hc]
    cases hfr : firstR (fun r => fitsG r (it.g :: fgl F b) (fgl F a.reverse)) lk.rules 0 with
    | none => rfl
    | some x =>
      obtain ⟨n, r⟩ := x
      obtain ⟨_, hr, hfit⟩ := firstR_mem hfr
      have hr' : lk.rules[n]? = some r := by simpa using hr
      have hgr : lk.rules.getD n default = r := by simp [hr']
      have h1 := hin r (List.mem_of_getElem? hr')
      have h0 : r.inn.length = 1 := by
        unfold fitsG at hfit
        cases hi : r.inn with
        | nil => rw [hi] at hfit; simp at hfit
        | cons s t => rw [hi] at h1; simp at h1 ⊢; exact h1
      have hup : foreL F true (a ++ it :: b) a.length = a.length :: upL (seenB F true (a ++ it :: b)) (a ++ it :: b).length (a.length + 1) := upL_yes (by simp) (by rw [seen_nm hat]; exact hn)
      have hps : (foreL F true (a ++ it :: b) a.length).take r.inn.length = [a.length] := by rw [hup, h0]; rfl
      simp only
      rw [hps, hgr]
      refine ⟨rfl, ?_⟩
      rw [doL_single hk, List.headD_cons]
      unfold singleL sgl
      rw [gAt_some hat]
      cases otherL r it.g with
      | none => rfl
      | some g => simp only; rw [modify_mid]
  · rw [if_neg hb, if_neg hb]
/-- Item by item, with the glyphs seen so far. -/
def goM (F : Fnt) (h : List Int → List Int → Itm → Itm) : List Int → List Itm → List Itm
  | _, [] => []
  | acc, it :: b => h acc (fgl F b) it :: goM F h (if nm F (h acc (fgl F b) it) then (h acc (fgl F b) it).g :: acc else acc) b
theorem goM_len (F : Fnt) (h : List Int → List Int → Itm → Itm) : ∀ (l : List Itm) (acc : List Int), (goM F h acc l).length = l.length
  | [], _ => rfl
  | it :: b, acc => by rw [goM, List.length_cons, goM_len F h b, List.length_cons]
theorem fgl_snoc (F : Fnt) (a : List Itm) (it : Itm) : fgl F (a ++ [it]).reverse = if nm F it then it.g :: fgl F a.reverse else fgl F a.reverse := by
  unfold fgl
  rw [List.reverse_append]
  show ((it :: a.reverse).filter (nm F)).map _ = _
  rw [List.filter_cons]
  split <;> rfl
theorem fgl_cons (F : Fnt) (b : List Itm) (it : Itm) : fgl F (it :: b) = if nm F it then it.g :: fgl F b else fgl F b := by
  unfold fgl
  rw [List.filter_cons]
  split <;> rfl
theorem fgl_filter (F : Fnt) (b : List Itm) : fgl F (b.filter (nm F)) = fgl F b := by unfold fgl; rw [List.filter_filter]; simp
theorem on_marks {w : Int → Int} {F : Fnt} {lk : Lk} {forms : List Int} (hk : lk.kind = 1 ∨ lk.kind = 5) (hi : lk.ign = true) (hin : ∀ r ∈ lk.rules, r.inn.length ≤ 1) :
    ∀ (rest a : List Itm) (fuel : Nat), rest.length ≤ fuel → onL w F lk forms fuel (a ++ rest) a.length = a ++ goM F (newM F lk forms) (fgl F a.reverse) rest := by
  intro rest
  induction rest with
  | nil =>
    intro a fuel _
    cases fuel with
    | zero => simp [onL, goM]
    | succ fuel => rw [onL]; simp [goM]
  | cons it rest ih =>
    intro a fuel hfu
    obtain ⟨fuel, rfl⟩ : ∃ x, fuel = x + 1 := ⟨fuel - 1, by simp at hfu; omega⟩
    have hst := step_marks (w := w) (F := F) (forms := forms) hk hi hin a rest it
    simp only [List.length_cons] at hfu
    rw [onL, if_pos (by simp), goM]
    cases hm : matchL F lk (a ++ it :: rest) (a.length : Int) forms with
    | none =>
      rw [hm] at hst
      simp only at hst ⊢
      rw [hst, show a ++ it :: rest = (a ++ [it]) ++ rest by simp, show a.length + 1 = (a ++ [it]).length by simp, ih (a ++ [it]) fuel (by omega), fgl_snoc]
      simp
    | some x =>
      obtain ⟨n, ps⟩ := x
      rw [hm] at hst
      simp only at hst ⊢
      obtain ⟨rfl, hst⟩ := hst
      rw [hst]
      generalize newM F lk forms (fgl F a.reverse) (fgl F rest) it = it' at *
      have hnx : nextL lk [a.length] a.length (a ++ it :: rest).length (a ++ it' :: rest).length = (a ++ [it']).length := by
        unfold nextL
        simp only [List.getLastD_cons, List.getLastD_nil, List.length_append, List.length_cons, List.length_nil]
        rw [if_neg (by omega), if_neg (by omega)]
        omega
      rw [hnx, show a ++ it' :: rest = (a ++ [it']) ++ rest by simp, ih (a ++ [it']) fuel (by omega), fgl_snoc]
      simp
theorem bw_marks {w : Int → Int} {F : Fnt} {lk : Lk} {forms : List Int} (hk : lk.kind = 1 ∨ lk.kind = 5) (hi : lk.ign = true) (hin : ∀ r ∈ lk.rules, r.inn.length ≤ 1) :
    ∀ (rp done : List Itm), bwL w F lk forms rp.length (rp.reverse ++ done) = (goM F (fun x y => newM F lk forms y x) (fgl F done) rp).reverse ++ done := by
  intro rp
  induction rp with
  | nil => intro done; rfl
  | cons it rp ih =>
    intro done
    have hst := step_marks (w := w) (F := F) (forms := forms) hk hi hin rp.reverse done it
    rw [List.length_reverse, List.reverse_reverse] at hst
    rw [List.length_cons, bwL, List.reverse_cons, List.append_assoc, List.singleton_append, goM]
    cases hm : matchL F lk (rp.reverse ++ it :: done) (rp.length : Int) forms with
    | none =>
      rw [hm] at hst
      simp only at hst ⊢
      rw [ih (it :: done), hst, fgl_cons]
      simp
    | some x =>
      obtain ⟨n, ps⟩ := x
      rw [hm] at hst
      simp only at hst ⊢
      obtain ⟨rfl, hst⟩ := hst
      rw [hst]
      generalize newM F lk forms (fgl F rp) (fgl F done) it = it' at *
      rw [ih (it' :: done), fgl_cons]
      simp
/-- Those of the second row whose fellows in the first are no marks. -/
def maskL (F : Fnt) : List Itm → List Itm → List Itm
  | it :: l, x :: xs => if nm F it then x :: maskL F l xs else maskL F l xs
  | _, _ => []
/-- Marks of the first row stand in the second as they were. -/
def keepL (F : Fnt) : List Itm → List Itm → Prop
  | it :: l, x :: xs => (nm F it = false → x = it) ∧ keepL F l xs
  | _, _ => True
theorem go_law (F : Fnt) (h : List Int → List Int → Itm → Itm) (hm : ∀ a b it, nm F it = false → h a b it = it) : ∀ (l : List Itm) (acc : List Int), maskL F l (goM F h acc l) = goM F h acc (l.filter (nm F)) ∧ keepL F l (goM F h acc l)
  | [], _ => ⟨rfl, trivial⟩
  | it :: l, acc => by
    rw [goM, maskL, keepL]
    by_cases hn : nm F it = true
    · have ih := go_law F h hm l (if nm F (h acc (fgl F l) it) then (h acc (fgl F l) it).g :: acc else acc)
      rw [if_pos hn, List.filter_cons, if_pos hn, goM, fgl_filter, ih.1]
      exact ⟨rfl, fun hc => (by rw [hn] at hc; cases hc), ih.2⟩
    · have hn' : nm F it = false := by simpa using hn
      rw [if_neg hn, List.filter_cons, if_neg hn, hm _ _ _ hn', if_neg hn]
      have ih := go_law F h hm l acc
      exact ⟨ih.1, fun _ => rfl, ih.2⟩
theorem mask_snoc (F : Fnt) : ∀ (l xs : List Itm) (it x : Itm), l.length = xs.length → maskL F (l ++ [it]) (xs ++ [x]) = maskL F l xs ++ (if nm F it then [x] else [])
  | [], [], it, x, _ => by simp [maskL]
  | [], _ :: _, _, _, h => by cases h
  | _ :: _, [], _, _, h => by cases h
  | a :: l, b :: xs, it, x, h => by
    have ih := mask_snoc F l xs it x (by simpa using h)
    rw [List.cons_append, List.cons_append, maskL, maskL, ih]
    split <;> simp
theorem keep_snoc (F : Fnt) : ∀ (l xs : List Itm) (it x : Itm), l.length = xs.length → (keepL F (l ++ [it]) (xs ++ [x]) ↔ keepL F l xs ∧ (nm F it = false → x = it))
  | [], [], it, x, _ => by simp [keepL]
  | [], _ :: _, _, _, h => by cases h
  | _ :: _, [], _, _, h => by cases h
  | a :: l, b :: xs, it, x, h => by
    have ih := keep_snoc F l xs it x (by simpa using h)
    rw [List.cons_append, List.cons_append, keepL, keepL, ih, and_assoc]
theorem mask_rev (F : Fnt) : ∀ (l xs : List Itm), l.length = xs.length → maskL F l.reverse xs.reverse = (maskL F l xs).reverse ∧ (keepL F l xs → keepL F l.reverse xs.reverse)
  | [], [], _ => ⟨rfl, fun _ => trivial⟩
  | [], _ :: _, h => by cases h
  | _ :: _, [], h => by cases h
  | a :: l, b :: xs, h => by
    have h' : l.length = xs.length := by simpa using h
    obtain ⟨h1, h2⟩ := mask_rev F l xs h'
    rw [List.reverse_cons, List.reverse_cons, mask_snoc F _ _ _ _ (by simpa using h'), keep_snoc F _ _ _ _ (by simpa using h'), h1, maskL, keepL]
    refine ⟨by split <;> simp, fun ⟨h3, h4⟩ => ⟨h2 h4, h3⟩⟩
/-- RulesMarks. -/
theorem marks_law {w : Int → Int} {F : Fnt} {n : Int} {lk : Lk} {run : List Itm} {forms : List Int} (hl : lkAt F n = some lk) (hk : lk.kind = 1 ∨ lk.kind = 5) (hi : lk.ign = true) (hin : ∀ r ∈ lk.rules, r.inn.length ≤ 1) :
    (applyL w F n run forms).length = run.length ∧ keepL F run (applyL w F n run forms) ∧ maskL F run (applyL w F n run forms) = applyL w F n (run.filter (nm F)) forms := by
  have key : ∀ run, applyL w F n run forms = if lk.kind = 5 then (goM F (fun x y => newM F lk forms y x) [] run.reverse).reverse else goM F (newM F lk forms) [] run := fun run => by
    unfold applyL
    rw [hl]
    simp only
    rw [if_neg (by omega)]
    split
    · have := bw_marks (w := w) (F := F) (forms := forms) hk hi hin run.reverse []
      rw [List.reverse_reverse, List.length_reverse, List.append_nil, List.append_nil] at this
      exact this
    · have := on_marks (w := w) (F := F) (forms := forms) hk hi hin run [] run.length (Nat.le_refl _)
      simpa [fgl] using this
  rw [key, key]
  split
  · obtain ⟨g1, g2⟩ := go_law F (fun x y => newM F lk forms y x) (fun a b it h => newM_mark h) run.reverse []
    have hl2 : run.reverse.length = (goM F (fun x y => newM F lk forms y x) [] run.reverse).length := (goM_len F _ _ _).symm
    obtain ⟨m1, m2⟩ := mask_rev F run.reverse (goM F (fun x y => newM F lk forms y x) [] run.reverse) hl2
    rw [List.reverse_reverse] at m1 m2
    refine ⟨by rw [List.length_reverse, ← hl2, List.length_reverse], m2 g2, ?_⟩
    rw [m1, g1, List.filter_reverse]
  · obtain ⟨g1, g2⟩ := go_law F (newM F lk forms) (fun a b it h => newM_mark h) run []
    exact ⟨goM_len F _ _ _, g2, g1⟩


theorem inSets_at {run : List Itm} : ∀ {ss : List (List Int)} {ps : List Nat} {i : Nat} {s : List Int} {p : Nat}, inSets run ss ps = true → ss[i]? = some s → ps[i]? = some p → s.contains (gAt run p) = true
  | [], _, i, s, p, _, h1, _ => by simp at h1
  | _ :: _, [], i, s, p, h, _, h2 => by simp at h2
  | t :: ss, q :: ps, i, s, p, h, h1, h2 => by
    rw [inSets_cons, Bool.and_eq_true] at h
    cases i with
    | zero => simp at h1 h2; rw [← h1, ← h2]; exact h.1
    | succ i => exact inSets_at h.2 (by simpa using h1) (by simpa using h2)
theorem sorted_below {l : List Nat} (hp : l.Pairwise (· < ·)) {i m p q : Nat} (hi : (l.take m)[i]? = some p) (hq : q ∈ l) (hlt : q < p) : q ∈ l.take m := by
  obtain ⟨j, hj⟩ := List.mem_iff_getElem?.1 hq
  rw [List.getElem?_take] at hi
  split at hi
  · rename_i him
    obtain ⟨h1, h1'⟩ := List.getElem?_eq_some_iff.1 hi
    obtain ⟨h2, h2'⟩ := List.getElem?_eq_some_iff.1 hj
    have hji : j < i := by
      refine Classical.byContradiction fun hn => ?_
      by_cases e : i = j
      · subst e; omega
      · have := List.pairwise_iff_getElem.1 hp i j h1 h2 (by omega); omega
    refine List.mem_of_getElem? (i := j) ?_
    rw [List.getElem?_take, if_pos (by omega)]; exact hj
  · cases hi
/-- What lies between the places of a match is passed over. -/
theorem places_between {F : Fnt} {lk : Lk} {run : List Itm} {k : Nat} {forms : List Int} {n : Nat} {ps : List Nat} (h : matchL F lk run (k : Int) forms = some (n, ps)) {i p q : Nat} (hp : ps[i]? = some p) (h1 : k ≤ q) (h2 : q < p) : q ∈ ps ∨ (lk.ign && isMark F (gAt run q)) = true := by
  obtain ⟨r, hr, _, _, hne, hhd, hpl, hps, hpw, hfit, he, hb⟩ := matchL_some h
  rw [Int.toNat_natCast] at he
  have hpr := (hps p (List.mem_of_getElem? hp)).2.1
  by_cases hs : seenB F lk.ign run q = true
  · left
    have hm : q ∈ foreL F lk.ign run k := upL_mem.2 ⟨h1, by omega, hs⟩
    rw [he] at hp ⊢
    exact sorted_below (upL_sorted _ _ _) hp hm h2
  · right
    unfold seenB at hs
    simpa using hs
theorem matchL_gly {F F' : Fnt} (h : F'.gly = F.gly) (lk : Lk) (run : List Itm) (k : Int) (forms : List Int) : matchL F' lk run k forms = matchL F lk run k forms := by
  have e : isMark F' = isMark F := by funext g; unfold isMark; rw [h]
  have e1 : ∀ ign, seenB F' ign run = seenB F ign run := fun ign => by funext i; unfold seenB; rw [e]
  unfold matchL begL foreL backL
  rw [e1]
theorem firstR_one {p : Rul → Bool} : ∀ {rs : List Rul} {m n : Nat} {r : Rul}, firstR p rs m = some (n, r) → firstR p (rs.take (n - m)) m = none
  | [], m, n, r, h => by cases h
  | q :: rs, m, n, r, h => by
    rw [firstR] at h
    split at h
    · injection h with h; injection h with h1 h2; subst h1; rw [Nat.sub_self]; rfl
    · rename_i hq
      obtain ⟨h1, _, _⟩ := firstR_mem h
      have ih := firstR_one h
      rw [show n - m = (n - (m + 1)) + 1 by omega, List.take_succ_cons, firstR, if_neg hq]
      exact ih
/-- The rule that is told matches alone; none ahead of it does. -/
theorem first_law {F F1 F2 : Fnt} {lk : Lk} {run : List Itm} {k : Int} {forms : List Int} {n : Nat} {ps : List Nat} {r : Rul} (h : matchL F lk run k forms = some (n, ps)) (hr : lk.rules[n]? = some r) (h1 : F1.gly = F.gly) (h2 : F2.gly = F.gly) :
    matchL F1 { lk with rules := [r] } run k forms = some (0, ps) ∧ matchL F2 { lk with rules := lk.rules.take n } run k forms = none := by
  rw [matchL_gly h1, matchL_gly h2]
  unfold matchL at h ⊢
  split at h
  · rename_i hb
    rw [if_pos hb, if_pos hb]
    cases hf : firstR (fun r => fits run r (foreL F lk.ign run k.toNat) (backL F lk.ign run k.toNat)) lk.rules 0 with
    | none => rw [hf] at h; cases h
    | some x =>
      obtain ⟨m, r'⟩ := x
      rw [hf] at h
      injection h with h; injection h with e1 e2; subst e1
      obtain ⟨_, hr', hfit⟩ := firstR_mem hf
      have er : r' = r := by rw [Nat.sub_zero, hr] at hr'; injection hr' with hr'; exact hr'.symm
      subst er
      have hn := firstR_one hf
      rw [Nat.sub_zero] at hn
      refine ⟨?_, ?_⟩
      · simp only
        rw [firstR, if_pos hfit]
        simp only
        rw [e2]
      · simp only
        rw [hn]
  · cases h

theorem on_same {w : Int → Int} {F : Fnt} {lk : Lk} {forms : List Int} {run : List Itm} (h : ∀ (r : Rul) (ps : List Nat), r ∈ lk.rules → doL w F 4 lk r ps run = run) : ∀ (fuel k : Nat), onL w F lk forms fuel run k = run := by
  intro fuel
  induction fuel with
  | zero => intro k; rfl
  | succ fuel ih =>
    intro k
    rw [onL]
    split
    · split
      · exact ih _
      · rename_i n ps hm
        obtain ⟨r, hr, _⟩ := matchL_some hm
        have hg : lk.rules.getD n default = r := by simp [hr]
        dsimp only
        rw [hg, h r ps (List.mem_of_getElem? hr)]
        exact ih _
    · rfl
theorem lkAt_app (F F2 : Fnt) (l : List Lk) (h : F2.lks = F.lks ++ l) (n : Int) (lk : Lk) (hl : lkAt F n = some lk) : lkAt F2 n = some lk := by
  unfold lkAt at hl ⊢
  split at hl
  · cases hl
  · rename_i h0
    rw [if_neg h0, h, List.getElem?_append_left (List.getElem?_eq_some_iff.1 hl).1]
    exact hl
/-- A chain that calls nothing does nothing. -/
theorem calls_none {w : Int → Int} {F : Fnt} {n : Int} {g : Int} {run : List Itm} {forms : List Int} (hl : lkAt F n = some ⟨4, false, [⟨[], [[g]], [], [], [], 0⟩]⟩) : applyL w F n run forms = run := by
  unfold applyL
  rw [hl]
  simp only
  rw [if_neg (by omega), if_neg (by omega)]
  refine on_same (fun r ps hr => ?_) _ _
  rw [List.mem_singleton] at hr
  subst hr
  rw [doL_chain rfl]; rfl
/-- A chain that calls one lookup for its first item does what that does there. -/
theorem calls_one {w : Int → Int} {F : Fnt} {n a : Int} {it : Itm} {lk : Lk} (hl : lkAt F n = some ⟨4, false, [⟨[], [[it.g]], [], [], [(0, a)], 0⟩]⟩) (ha : lkAt F a = some lk) (h1 : 1 ≤ lk.kind) (h3 : lk.kind ≤ 3) :
    applyL w F n [it] [] = applyL w F a [it] [] := by
  have hd : ∀ (r : Rul) (ps : List Nat) (run : List Itm), doL w F 4 lk r ps run = doL w F 3 lk r ps run := fun r ps run => by
    by_cases k1 : lk.kind = 1 ∨ lk.kind = 5
    · rw [doL_single k1, doL_single k1]
    by_cases k2 : lk.kind = 2
    · rw [doL_mult k2, doL_mult k2]
    · rw [doL_lig (by omega), doL_lig (by omega)]
  have e2 : applyL w F a [it] [] = match matchL F lk [it] 0 [] with | none => [it] | some (n, ps) => doL w F 3 lk (lk.rules.getD n default) ps [it] := by
    unfold applyL
    rw [ha]
    simp only
    rw [if_neg (by omega), if_neg (by omega)]
    show onL w F lk [] (0 + 1) [it] 0 = _
    rw [onL, if_pos (by simp)]
    show (match matchL F lk [it] (0 : Int) [] with | none => _ | some (n, ps) => _) = _
    cases matchL F lk [it] (0 : Int) [] with
    | none => rfl
    | some x => obtain ⟨n, ps⟩ := x; simp only [onL]; rw [hd]
  have e1 : applyL w F n [it] [] = stepC w F 3 ⟨4, false, [⟨[], [[it.g]], [], [], [(0, a)], 0⟩]⟩ 0 [it] (0, a) := by
    unfold applyL
    rw [hl]
    simp only
    rw [if_neg (by omega), if_neg (by omega)]
    show onL w F _ [] (0 + 1) [it] 0 = _
    rw [onL, if_pos (by simp)]
    have hm := matchL_flat (F := F) (lk := ⟨4, false, [⟨[], [[it.g]], [], [], [(0, a)], 0⟩]⟩) (run := [it]) (k := 0) (it := it) (forms := []) (fun r hr => by rw [List.mem_singleton] at hr; subst hr; exact ⟨rfl, rfl, rfl⟩) rfl
    have hp : pick F ⟨4, false, [⟨[], [[it.g]], [], [], [(0, a)], 0⟩]⟩ [] it = some (0, ⟨[], [[it.g]], [], [], [(0, a)], 0⟩) := by
      unfold pick
      simp [firstR]
    rw [hm, hp]
    simp only [Option.map_some, onL]
    show doL w F (3 + 1) _ ⟨[], [[it.g]], [], [], [(0, a)], 0⟩ [0] [it] = _
    rw [doL_chain rfl]
    rfl
  rw [e1, e2]
  unfold stepC
  have hn : nthL F false [it] 0 0 = some 0 := by
    unfold nthL
    rw [if_neg (by omega), upL_yes (by simp) (by unfold seenB; rfl)]
    rfl
  rw [hn, ha]
  simp only
  rw [if_pos ⟨h1, by omega⟩]
  show (match matchL F lk [it] (0 : Int) [] with | some (n, ps) => _ | none => _) = _
  cases matchL F lk [it] (0 : Int) [] with
  | none => rfl
  | some x => rfl

end Go.Proofs.Ytkoocipagndclaa
