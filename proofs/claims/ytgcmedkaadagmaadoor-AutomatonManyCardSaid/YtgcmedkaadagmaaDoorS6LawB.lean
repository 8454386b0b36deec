/- Plain: classes of numbers, counted as they first come; what a partition's rounds keep. -/
import Derived.Test.YtgcmedkaadagmaaDoorS6LawA
namespace Go.Proofs.YtgcmedkaadagmaaDoor.S6

section
variable {α β : Type} [DecidableEq α] [DecidableEq β]
/-- The first number with the same key. -/
def firstOf (f : Nat → α) (i : Nat) : Nat := ((List.range i).find? (fun j => decide (f j = f i))).getD i
theorem fo_spec (f : Nat → α) (i : Nat) : firstOf f i ≤ i ∧ f (firstOf f i) = f i ∧ ∀ j, j < firstOf f i → f j ≠ f i := by
  unfold firstOf
  cases h : (List.range i).find? (fun j => decide (f j = f i)) with
  | none =>
    rw [List.find?_range_eq_none] at h
    refine ⟨Nat.le_refl _, rfl, fun j hj => ?_⟩
    have := h j hj
    simpa using this
  | some j =>
    rw [List.find?_range_eq_some] at h
    obtain ⟨h1, h2, h3⟩ := h
    refine ⟨?_, by simpa using h1, fun k hk => ?_⟩
    · have := List.mem_range.1 h2; simp; omega
    · have := h3 k (by simpa using hk); simpa using this
theorem fo_le (f : Nat → α) (i : Nat) : firstOf f i ≤ i := (fo_spec f i).1
theorem fo_key (f : Nat → α) (i : Nat) : f (firstOf f i) = f i := (fo_spec f i).2.1
theorem fo_min (f : Nat → α) (i j : Nat) (h : f j = f i) : firstOf f i ≤ j := by
  rcases Nat.lt_or_ge j (firstOf f i) with hlt | hge
  · exact absurd h ((fo_spec f i).2.2 j hlt)
  · exact hge
theorem fo_eq (f : Nat → α) (i j : Nat) : firstOf f i = firstOf f j ↔ f i = f j := by
  constructor
  · intro h; rw [← fo_key f i, ← fo_key f j, h]
  · intro h
    have h1 := fo_min f i (firstOf f j) ((fo_key f j).trans h.symm)
    have h2 := fo_min f j (firstOf f i) ((fo_key f i).trans h)
    omega
theorem fo_fo (f : Nat → α) (i : Nat) : firstOf f (firstOf f i) = firstOf f i := (fo_eq f _ _).2 (fo_key f i)
theorem fo_congr {f : Nat → α} {g : Nat → β} {n : Nat} (h : ∀ i j, i < n → j < n → (f i = f j ↔ g i = g j)) {i : Nat} (hi : i < n) : firstOf f i = firstOf g i := by
  have l1 := fo_le f i
  have l2 := fo_le g i
  have h1 := fo_min f i (firstOf g i) ((h _ _ (by omega) hi).2 (fo_key g i))
  have h2 := fo_min g i (firstOf f i) ((h _ _ (by omega) hi).1 (fo_key f i))
  omega

/-- How many numbers below i are the first ones of their keys. -/
def nF (f : Nat → α) (i : Nat) : Nat := ((List.range i).filter (fun j => decide (firstOf f j = j))).length
theorem nF_zero (f : Nat → α) : nF f 0 = 0 := rfl
theorem nF_succ (f : Nat → α) (i : Nat) : nF f (i + 1) = nF f i + if firstOf f i = i then 1 else 0 := by
  unfold nF
  rw [List.range_succ, List.filter_append, List.length_append]
  by_cases h : firstOf f i = i <;> simp [h]
theorem nF_mono (f : Nat → α) {i j : Nat} (h : i ≤ j) : nF f i ≤ nF f j := by
  induction j with
  | zero => obtain rfl : i = 0 := by omega
            exact Nat.le_refl _
  | succ j ih =>
    by_cases e : i = j + 1
    · subst e; exact Nat.le_refl _
    · rw [nF_succ]; have := ih (by omega); omega
theorem nF_lt (f : Nat → α) {i j : Nat} (h : i < j) (hf : firstOf f i = i) : nF f i < nF f j := by
  have h1 := nF_succ f i
  rw [if_pos hf] at h1
  have h2 := nF_mono f (show i + 1 ≤ j by omega)
  omega
theorem nF_le (f : Nat → α) (i : Nat) : nF f i ≤ i := by
  unfold nF; have := List.length_filter_le (fun j => decide (firstOf f j = j)) (List.range i); simpa using this
def classOf (f : Nat → α) (i : Nat) : Nat := nF f (firstOf f i)
theorem class_new {f : Nat → α} {i : Nat} (h : firstOf f i = i) : classOf f i = nF f i := by unfold classOf; rw [h]
theorem class_eq (f : Nat → α) (i j : Nat) : classOf f i = classOf f j ↔ f i = f j := by
  rw [← fo_eq f]
  unfold classOf
  constructor
  · intro h
    rcases Nat.lt_trichotomy (firstOf f i) (firstOf f j) with hl | hl | hl
    · have := nF_lt f hl (fo_fo f i); omega
    · exact hl
    · have := nF_lt f hl (fo_fo f j); omega
  · intro h; rw [h]
theorem class_le (f : Nat → α) (i : Nat) : classOf f i ≤ nF f i := nF_mono f (fo_le f i)
theorem class_lt (f : Nat → α) {i j : Nat} (h : j < i) : classOf f j < nF f i := nF_lt f (by have := fo_le f j; omega) (fo_fo f j)
theorem nF_congr {f : Nat → α} {g : Nat → β} {n : Nat} (h : ∀ i j, i < n → j < n → (f i = f j ↔ g i = g j)) {i : Nat} (hi : i ≤ n) : nF f i = nF g i := by
  induction i with
  | zero => rfl
  | succ i ih => rw [nF_succ, nF_succ, ih (by omega), fo_congr h (show i < n by omega)]
theorem class_congr {f : Nat → α} {g : Nat → β} {n : Nat} (h : ∀ i j, i < n → j < n → (f i = f j ↔ g i = g j)) {i : Nat} (hi : i < n) : classOf f i = classOf g i := by
  unfold classOf
  rw [fo_congr h hi]
  exact nF_congr h (by have := fo_le g i; omega)

def partF (f : Nat → α) (n : Nat) : List Int := (List.range n).map fun i => (classOf f i : Int)
theorem partF_length (f : Nat → α) (n : Nat) : (partF f n).length = n := by simp [partF]
theorem partF_at (f : Nat → α) {n i : Nat} (h : i < n) : (partF f n)[i]? = some (classOf f i : Int) := by simp [partF, h]
theorem partF_succ (f : Nat → α) (n : Nat) : partF f (n + 1) = partF f n ++ [(classOf f n : Int)] := by simp [partF, List.range_succ]
theorem partF_congr {f : Nat → α} {g : Nat → β} {n : Nat} (h : ∀ i j, i < n → j < n → (f i = f j ↔ g i = g j)) : partF f n = partF g n := by
  unfold partF
  apply List.map_congr_left
  intro i hi
  rw [class_congr h (List.mem_range.1 hi)]
end

/-- Of which sets a number is. -/
def sig (xss : List (List Int)) (i : Nat) : List Bool := xss.map fun xs => decide ((i : Int) ∈ xs)
def partL (xss : List (List Int)) (n : Nat) : List Int := partF (sig xss) n
theorem sig_eq (xss : List (List Int)) (i j : Nat) : sig xss i = sig xss j ↔ ∀ xs ∈ xss, ((i : Int) ∈ xs ↔ (j : Int) ∈ xs) := by
  unfold sig
  rw [List.map_inj_left]
  constructor
  · intro h xs hx
    have := h xs hx
    simpa using this
  · intro h xs hx
    have := h xs hx
    simpa using this
theorem sig_snoc {xss : List (List Int)} {k : Nat} {xs : List Int} (h : xss[k]? = some xs) (i j : Nat) : sig (xss.take (k + 1)) i = sig (xss.take (k + 1)) j ↔ sig (xss.take k) i = sig (xss.take k) j ∧ ((i : Int) ∈ xs ↔ (j : Int) ∈ xs) := by
  rw [List.take_add_one, h]
  simp [sig_eq, or_imp, forall_and]

-- the second part: counting anew
def gm (cs : List Int) (i : Nat) : Int → Option Int := fun o => ((List.range i).find? (fun j => decide (cs.getD j 0 = o))).map (fun j => (classOf (cs.getD · 0) j : Int))
theorem gm_zero (cs : List Int) : gm cs 0 = fun _ => none := rfl
theorem gm_known {cs : List Int} {i : Nat} (h : firstOf (cs.getD · 0) i < i) : gm cs i (cs.getD i 0) = some (classOf (cs.getD · 0) i : Int) := by
  unfold gm
  unfold firstOf at h
  cases hf : (List.range i).find? (fun j => decide (cs.getD j 0 = cs.getD i 0)) with
  | none => rw [hf] at h; simp at h
  | some j =>
    have hj := (List.find?_range_eq_some.1 hf).1
    simp only [Option.map_some]
    congr 2
    rw [class_eq]
    simpa using hj
theorem gm_new {cs : List Int} {i : Nat} (h : ¬ firstOf (cs.getD · 0) i < i) : gm cs i (cs.getD i 0) = none := by
  unfold gm
  cases hf : (List.range i).find? (fun j => decide (cs.getD j 0 = cs.getD i 0)) with
  | none => rfl
  | some j =>
    have h1 := List.find?_range_eq_some.1 hf
    have h2 := fo_min (cs.getD · 0) i j (by simpa using h1.1)
    have := List.mem_range.1 h1.2.1
    omega
theorem gm_succ (cs : List Int) (i : Nat) (o : Int) : gm cs (i + 1) o = if (gm cs i o).isSome then gm cs i o else if o = cs.getD i 0 then some (classOf (cs.getD · 0) i : Int) else none := by
  unfold gm
  rw [List.range_succ, List.find?_append]
  cases hf : (List.range i).find? (fun j => decide (cs.getD j 0 = o)) with
  | none =>
    by_cases e : o = cs.getD i 0
    · subst e; simp
    · have e' : ¬ cs.getD i 0 = o := fun h => e h.symm
      simp only [Option.map_none, Option.isSome_none, Bool.false_eq_true, if_false, if_neg e, Option.none_or]
      rw [List.find?_cons_of_neg (by simpa using e')]; rfl
  | some j => simp
theorem gm_succ_known {cs : List Int} {i : Nat} (h : firstOf (cs.getD · 0) i < i) : gm cs (i + 1) = gm cs i := by
  funext o
  rw [gm_succ]
  split
  · rfl
  · rename_i hn
    split
    · rename_i e; subst e; rw [gm_known h] at hn; simp at hn
    · simp at hn; exact hn.symm
theorem gm_succ_new {cs : List Int} {i : Nat} (h : ¬ firstOf (cs.getD · 0) i < i) : gm cs (i + 1) = fun o => if o = cs.getD i 0 then some (nF (cs.getD · 0) i : Int) else gm cs i o := by
  funext o
  have hf : firstOf (cs.getD · 0) i = i := by have := fo_le (cs.getD · 0) i; omega
  rw [gm_succ, class_new hf]
  by_cases e : o = cs.getD i 0
  · subst e; rw [gm_new h]; simp
  · simp only [if_neg e]
    split
    · rfl
    · rename_i hn; simp at hn; exact hn.symm
/-- The row while it is counted anew. -/
def mixed (cs : List Int) (i : Nat) : List Int := partF (cs.getD · 0) i ++ cs.drop i
theorem mixed_zero (cs : List Int) : mixed cs 0 = cs := by simp [mixed, partF]
theorem mixed_all (cs : List Int) : mixed cs cs.length = partF (cs.getD · 0) cs.length := by simp [mixed]
theorem mixed_at {cs : List Int} {i : Nat} (h : i < cs.length) : (mixed cs i)[i]? = some (cs.getD i 0) := by
  unfold mixed
  rw [List.getElem?_append_right (by rw [partF_length]; omega), partF_length, Nat.sub_self, List.getElem?_drop]
  simp [h]
theorem mixed_succ {cs : List Int} {i : Nat} (h : i < cs.length) : mixed cs (i + 1) = (mixed cs i).set i (classOf (cs.getD · 0) i : Int) := by
  unfold mixed
  rw [List.set_append_right _ _ (by rw [partF_length]; omega), partF_length, Nat.sub_self, partF_succ, List.append_assoc]
  congr 1
  rw [List.drop_eq_getElem_cons h]
  rfl

-- the first part: parting by a set
structure In1 (n : Nat) (c0 : List Int) (K0 : Int) (S : List Int) (p : Nat) (c : List Int) (K : Int) (f : Int → Option Int) : Prop where
  len : c.length = n
  fb : ∀ o v, f o = some v → K0 ≤ v ∧ v < K
  inj : ∀ o o' v, f o = some v → f o' = some v → o = o'
  inn : ∀ i, i < n → (i : Int) ∈ S.take p → f (c0.getD i 0) = some (c.getD i 0)
  out : ∀ i, i < n → (i : Int) ∉ S.take p → c.getD i 0 = c0.getD i 0
  kb : K0 ≤ K ∧ K ≤ K0 + p
theorem In1.start {n : Nat} {c0 : List Int} (K0 : Int) (S : List Int) (h : c0.length = n) : In1 n c0 K0 S 0 c0 K0 (fun _ => none) :=
  ⟨h, (fun o v h => by cases h), (fun o o' v h => by cases h), (fun i _ h => by simp at h), fun i _ _ => rfl, by omega⟩
theorem mem_take_succ {S : List Int} {p : Nat} {x : Int} (h : S[p]? = some x) (y : Int) : y ∈ S.take (p + 1) ↔ y ∈ S.take p ∨ y = x := by
  rw [List.take_add_one, h]; simp
theorem not_mem_take {S : List Int} (hS : Srt S) {p : Nat} {x : Int} (h : S[p]? = some x) : x ∉ S.take p := by
  intro hm
  obtain ⟨j, hj⟩ := List.getElem?_of_mem hm
  rw [List.getElem?_take] at hj
  split at hj
  · rename_i hlt
    have := srt_at hS hlt hj h; omega
  · cases hj
section
variable {n p : Nat} {c0 S c : List Int} {K0 K x : Int} {f : Int → Option Int}
theorem In1.skip (h : In1 n c0 K0 S p c K f) (hx : S[p]? = some x) (hr : x < 0 ∨ (n : Int) ≤ x) : In1 n c0 K0 S (p + 1) c K f := by
  refine ⟨h.len, h.fb, h.inj, fun i hi hm => ?_, fun i hi hm => ?_, by have := h.kb; omega⟩
  · rcases (mem_take_succ hx _).1 hm with hm | e
    · exact h.inn i hi hm
    · omega
  · exact h.out i hi (fun h' => hm ((mem_take_succ hx _).2 (.inl h')))
theorem getD_set (c : List Int) (q i : Nat) (v : Int) (hq : q < c.length) : (c.set q v).getD i 0 = if i = q then v else c.getD i 0 := by
  simp only [List.getD_eq_getElem?_getD, List.getElem?_set]
  by_cases e : q = i
  · subst e; simp [hq]
  · rw [if_neg e, if_neg (fun h => e h.symm)]
theorem In1.here (h : In1 n c0 K0 S p c K f) (hS : Srt S) {q : Nat} (hx : S[p]? = some (q : Int)) (hq : q < n) : c.getD q 0 = c0.getD q 0 := h.out q hq (not_mem_take hS hx)
theorem In1.old (h : In1 n c0 K0 S p c K f) (hS : Srt S) {q : Nat} (hx : S[p]? = some (q : Int)) (hq : q < n) {v : Int} (hf : f (c.getD q 0) = some v) : In1 n c0 K0 S (p + 1) (c.set q v) K f := by
  have hh := h.here hS hx hq
  refine ⟨by rw [List.length_set, h.len], h.fb, h.inj, fun i hi hm => ?_, fun i hi hm => ?_, by have := h.kb; omega⟩
  · rw [getD_set _ _ _ _ (by rw [h.len]; exact hq)]
    rcases (mem_take_succ hx _).1 hm with hm | e
    · by_cases e : i = q
      · subst e; rw [if_pos rfl, ← hh]; exact hf
      · rw [if_neg e]; exact h.inn i hi hm
    · obtain rfl : i = q := by omega
      rw [if_pos rfl, ← hh]; exact hf
  · have e : i ≠ q := fun e => hm ((mem_take_succ hx _).2 (.inr (by rw [e])))
    rw [getD_set _ _ _ _ (by rw [h.len]; exact hq), if_neg e]
    exact h.out i hi (fun h' => hm ((mem_take_succ hx _).2 (.inl h')))
theorem In1.new (h : In1 n c0 K0 S p c K f) (hS : Srt S) {q : Nat} (hx : S[p]? = some (q : Int)) (hq : q < n) (hf : f (c.getD q 0) = none) :
    In1 n c0 K0 S (p + 1) (c.set q K) (K + 1) (fun j => if j = c.getD q 0 then some K else f j) := by
  have hh := h.here hS hx hq
  have hkb := h.kb
  refine ⟨by rw [List.length_set, h.len], fun o v hv => ?_, fun o o' v h1 h2 => ?_, fun i hi hm => ?_, fun i hi hm => ?_, by omega⟩
  · split at hv
    · injection hv with hv; omega
    · have := h.fb o v hv; omega
  · split at h1 <;> split at h2
    · rename_i e1 e2; rw [e1, e2]
    · injection h1 with h1; have := h.fb o' v h2; omega
    · injection h2 with h2; have := h.fb o v h1; omega
    · exact h.inj o o' v h1 h2
  · rw [getD_set _ _ _ _ (by rw [h.len]; exact hq)]
    rcases (mem_take_succ hx _).1 hm with hm | e
    · by_cases e : i = q
      · subst e; rw [if_pos hh.symm, if_pos rfl]
      · have hi2 := h.inn i hi hm
        rw [if_neg e, if_neg (fun e' => by rw [e', hf] at hi2; cases hi2)]
        exact hi2
    · obtain rfl : i = q := by omega
      rw [if_pos hh.symm, if_pos rfl]
  · have e : i ≠ q := fun e => hm ((mem_take_succ hx _).2 (.inr (by rw [e])))
    rw [getD_set _ _ _ _ (by rw [h.len]; exact hq), if_neg e]
    exact h.out i hi (fun h' => hm ((mem_take_succ hx _).2 (.inl h')))
end
structure Ph (n : Nat) (xss : List (List Int)) (k : Nat) (c : List Int) (K : Int) : Prop where
  len : c.length = n
  bd : ∀ i, i < n → 0 ≤ c.getD i 0 ∧ c.getD i 0 < K
  eqv : ∀ i j, i < n → j < n → (c.getD i 0 = c.getD j 0 ↔ sig (xss.take k) i = sig (xss.take k) j)
  kb : 1 ≤ K ∧ K ≤ 1 + 1000 * k
theorem Ph.start (n : Nat) (xss : List (List Int)) : Ph n xss 0 (List.replicate n 0) 1 := by
  refine ⟨by simp, fun i hi => ?_, fun i j hi hj => ?_, by omega⟩
  · simp [hi]
  · simp [hi, hj, sig]
theorem In1.bd {n p k : Nat} {c0 S c : List Int} {K0 K : Int} {f : Int → Option Int} {xss : List (List Int)} (h : In1 n c0 K0 S p c K f) (h0 : Ph n xss k c0 K0) {i : Nat} (hi : i < n) : 0 ≤ c.getD i 0 ∧ c.getD i 0 < K := by
  have hk := h.kb
  have h1 := h0.kb
  by_cases hm : (i : Int) ∈ S.take p
  · have := h.fb _ _ (h.inn i hi hm); omega
  · rw [h.out i hi hm]; have := h0.bd i hi; omega
theorem Ph.next {n k : Nat} {xss : List (List Int)} {c0 c xs : List Int} {K0 K : Int} {f : Int → Option Int} (h0 : Ph n xss k c0 K0) (hx : xss[k]? = some xs) (h : In1 n c0 K0 (ofL xs) (ofL xs).length c K f) (hl : (ofL xs).length ≤ 1000) : Ph n xss (k + 1) c K := by
  have hk := h.kb
  have h1 := h0.kb
  have inn := h.inn
  have out := h.out
  rw [List.take_length] at inn out
  refine ⟨h.len, fun i hi => h.bd h0 hi, fun i j hi hj => ?_, by omega⟩
  rw [sig_snoc hx, ← h0.eqv i j hi hj]
  have mi := ofL_mem xs i
  have mj := ofL_mem xs j
  by_cases ai : (i : Int) ∈ ofL xs <;> by_cases aj : (j : Int) ∈ ofL xs
  · have e1 := inn i hi ai
    have e2 := inn j hj aj
    constructor
    · intro e
      rw [← e] at e2
      exact ⟨h.inj _ _ _ e1 e2, by rw [← mi, ← mj]; simp [ai, aj]⟩
    · rintro ⟨e, _⟩
      rw [e, e2] at e1; injection e1 with e1; exact e1.symm
  · have e1 := h.fb _ _ (inn i hi ai)
    have e2 := out j hj aj
    have e3 := h0.bd j hj
    constructor
    · intro e; omega
    · rintro ⟨_, e⟩; rw [← mi, ← mj] at e; exact absurd (e.1 ai) aj
  · have e1 := h.fb _ _ (inn j hj aj)
    have e2 := out i hi ai
    have e3 := h0.bd i hi
    constructor
    · intro e; omega
    · rintro ⟨_, e⟩; rw [← mi, ← mj] at e; exact absurd (e.2 aj) ai
  · rw [out i hi ai, out j hj aj]
    constructor
    · intro e; exact ⟨e, by rw [← mi, ← mj]; simp [ai, aj]⟩
    · exact fun e => e.1
theorem Ph.last {n : Nat} {xss : List (List Int)} {c : List Int} {K : Int} (h : Ph n xss xss.length c K) : partF (c.getD · 0) n = partL xss n := by
  have e := h.eqv
  rw [List.take_length] at e
  exact partF_congr e

end Go.Proofs.YtgcmedkaadagmaaDoor.S6
