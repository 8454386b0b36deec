/- The plain functions of the reference's script layer: groups, clusters, order. -/
import Derived.Test.YtdacfcfgikllpaaSpec
namespace Go.Proofs.Ytdacfcfgikllpaa

theorem forms_at {xs : List Int} {k : Nat} {x : Int} (p : Int) (hx : xs[k]? = some x) : (formsR p xs)[k]? = some (fm (lastK p (xs.take k)) (kind x) (nextK (xs.drop (k + 1)))) := by
  induction xs generalizing p k with
  | nil => simp at hx
  | cons y r ih =>
    cases k with
    | zero => simp at hx; subst hx; simp [formsR, lastK]
    | succ k => simp at hx; simp [formsR, ih _ hx, lastK]
theorem forms_take_succ {xs : List Int} {k : Nat} {x : Int} (hx : xs[k]? = some x) :
    (forms xs).take (k + 1) = (forms xs).take k ++ [fm (lastK 0 (xs.take k)) (kind x) (nextK (xs.drop (k + 1)))] := by
  rw [List.take_add_one]; unfold forms; rw [forms_at 0 hx]; rfl
theorem nextK_drop {xs : List Int} {k : Nat} {x : Int} (hx : xs[k]? = some x) : nextK (xs.drop k) = if kind x = 3 then nextK (xs.drop (k + 1)) else kind x := by
  have hl := (List.getElem?_eq_some_iff.1 hx).1
  rw [List.drop_eq_getElem_cons hl]
  have e : xs[k] = x := (List.getElem?_eq_some_iff.1 hx).2
  rw [e, nextK]
theorem nextK_end {xs : List Int} {k : Nat} (h : xs.length ≤ k) : nextK (xs.drop k) = 0 := by rw [List.drop_of_length_le h]; rfl
theorem lastK_succ {xs : List Int} {k : Nat} {x : Int} (hx : xs[k]? = some x) : lastK 0 (xs.take (k + 1)) = if kind x = 3 then lastK 0 (xs.take k) else kind x := by
  rw [List.take_add_one, hx]; simp [lastK, updK]

/-- The place at which the group of a rune begins. -/
def grp (xs : List Int) : Nat → Nat
  | 0 => 0
  | k + 1 => if kind (xs.getD (k + 1) 0) = 3 then grp xs k else k + 1
theorem grp_le (xs : List Int) (k : Nat) : grp xs k ≤ k := by
  induction k with
  | zero => simp [grp]
  | succ k ih => unfold grp; split <;> omega
theorem grp_mark {xs : List Int} {k : Nat} {x : Int} (hk : 0 < k) (hx : xs[k]? = some x) (h : kind x = 3) : grp xs k = grp xs (k - 1) := by
  obtain ⟨j, rfl⟩ : ∃ j, k = j + 1 := ⟨k - 1, by omega⟩
  simp [grp, hx, h]
theorem grp_self {xs : List Int} {k : Nat} {x : Int} (hx : xs[k]? = some x) (h : kind x ≠ 3) : grp xs k = k := by
  cases k with
  | zero => rfl
  | succ k => simp [grp, hx, h]

def cback (xs : List Int) : Nat → Nat → Nat
  | 0, c => c
  | f + 1, c => if 0 < c ∧ kind (xs.getD c 0) = 5 then cback xs f (grp xs (c - 1)) else c
theorem cback_le (xs : List Int) (f c : Nat) : cback xs f c ≤ c := by
  induction f generalizing c with
  | zero => simp [cback]
  | succ f ih =>
    unfold cback
    split
    · have := ih (grp xs (c - 1)); have := grp_le xs (c - 1); omega
    · omega
theorem cback_step {xs : List Int} {c f : Nat} {x : Int} (hc : 0 < c) (hf : c ≤ f) (hx : xs[c]? = some x) (h : kind x = 5) : ∃ f', grp xs (c - 1) ≤ f' ∧ cback xs f c = cback xs f' (grp xs (c - 1)) := by
  obtain ⟨j, rfl⟩ : ∃ j, f = j + 1 := ⟨f - 1, by omega⟩
  refine ⟨j, by have := grp_le xs (c - 1); omega, ?_⟩
  simp [cback, hc, hx, h]
theorem cback_stop {xs : List Int} {c f : Nat} {x : Int} (hx : xs[c]? = some x) (h : kind x ≠ 5) : cback xs f c = c := by
  cases f with
  | zero => rfl
  | succ f => simp [cback, hx, h]
theorem cback_zero (xs : List Int) (f : Nat) : cback xs f 0 = 0 := by have := cback_le xs f 0; omega

/-- The place at which the cluster of a rune begins. -/
def clu (xs : List Int) (k : Nat) : Nat :=
  let g := grp xs k
  let c := cback xs g g
  if kind (xs.getD c 0) = 4 then c else g
theorem clu_le (xs : List Int) (k : Nat) : clu xs k ≤ k := by
  unfold clu
  have h1 := grp_le xs k
  have h2 := cback_le xs (grp xs k) (grp xs k)
  simp only
  split <;> omega

def rclusters (xs : List Int) : List Nat := (List.range xs.length).filter fun i => clu xs i = i
theorem rclusters_step (xs : List Int) (k : Nat) : (List.range (k + 1)).filter (fun i => decide (clu xs i = i)) = (List.range k).filter (fun i => decide (clu xs i = i)) ++ (if clu xs k = k then [k] else []) := by
  rw [List.range_succ, List.filter_append]
  congr 1
  by_cases h : clu xs k = k <;> simp [h]

def aheadB (xs : List Int) (a b : Nat) : Bool :=
  if clu xs a ≠ clu xs b then decide (clu xs a < clu xs b)
  else if grp xs a ≠ grp xs b then
    (if grp xs a = clu xs a then false else decide (grp xs b = clu xs a) || decide (grp xs a < grp xs b))
  else if (kind (xs.getD a 0) == 3) != (kind (xs.getD b 0) == 3) then (kind (xs.getD b 0) == 3)
  else if cls (xs.getD a 0) ≠ cls (xs.getD b 0) then decide (cls (xs.getD a 0) < cls (xs.getD b 0))
  else decide (a < b)

/-- How many of the first m places are shown ahead of i. -/
def cnt (xs : List Int) (i : Nat) (m : Nat) : Nat := ((List.range m).filter fun k => k ≠ i ∧ aheadB xs k i = true).length
theorem cnt_succ (xs : List Int) (i m : Nat) : cnt xs i (m + 1) = cnt xs i m + if m ≠ i ∧ aheadB xs m i = true then 1 else 0 := by
  unfold cnt
  rw [List.range_succ, List.filter_append, List.length_append]
  congr 1
  by_cases h : m ≠ i ∧ aheadB xs m i = true
  · rw [if_pos h]; simp only [List.filter_cons, List.filter_nil]; rw [if_pos (by simpa using h)]; rfl
  · rw [if_neg h]; simp only [List.filter_cons, List.filter_nil]; rw [if_neg (by simpa using h)]; rfl
theorem cnt_le (xs : List Int) (i m : Nat) : cnt xs i m ≤ m := by
  induction m with
  | zero => simp [cnt]
  | succ m ih => rw [cnt_succ]; split <;> omega
theorem cnt_lt (xs : List Int) (i m : Nat) (h : i < m) : cnt xs i m < m := by
  induction m with
  | zero => omega
  | succ m ih =>
    rw [cnt_succ]
    by_cases e : m = i
    · subst e; simp; have := cnt_le xs m m; omega
    · have := ih (by omega); split <;> omega

def rordTo (xs : List Int) (k : Nat) : List Int := (List.range k).foldl (fun (out : List Int) (i : Nat) => out.set (cnt xs i xs.length) (i : Int)) (List.replicate xs.length 0)
def rorder (xs : List Int) : List Int := rordTo xs xs.length
theorem rordTo_succ (xs : List Int) (k : Nat) : rordTo xs (k + 1) = (rordTo xs k).set (cnt xs k xs.length) (k : Int) := by
  unfold rordTo; rw [List.range_succ, List.foldl_append]; rfl

end Go.Proofs.Ytdacfcfgikllpaa
