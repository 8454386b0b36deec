/- Plain: clusters stand together; marks play no part in forms; runes behind a plain one are as if they stood alone. -/
import Derived.Test.YtdacfcfgikllpaaLawB
namespace Go.Proofs.Ytdacfcfgikllpaa

-- clusters
theorem grp_start (xs : List Int) (p : Nat) : Start xs (grp xs p) := by
  induction p with
  | zero => exact .inl rfl
  | succ p ih =>
    unfold grp
    split
    · exact ih
    · rename_i h; exact .inr h
theorem grp_of_start {xs : List Int} {a : Nat} (h : Start xs a) : grp xs a = a :=
  grp_of (b := a + 1) h (fun j h1 h2 => by omega) (Nat.le_refl _) (by omega)
theorem grp_mono (xs : List Int) {p q : Nat} (h : p ≤ q) : grp xs p ≤ grp xs q := by
  induction q with
  | zero => obtain rfl : p = 0 := by omega
            exact Nat.le_refl _
  | succ q ih =>
    by_cases e : p = q + 1
    · subst e; exact Nat.le_refl _
    · show grp xs p ≤ (if kind (xs.getD (q + 1) 0) = 3 then grp xs q else q + 1)
      split
      · exact ih (by omega)
      · have := grp_le xs p; omega
theorem grp_grp (xs : List Int) (p : Nat) : grp xs (grp xs p) = grp xs p := grp_of_start (grp_start xs p)

/-- A group between a group and its root is of a vowel, and has the same root. -/
theorem root_between (xs : List Int) : ∀ (a q : Nat), Start xs q → root xs a < q → q ≤ a → root xs q = root xs a := by
  intro a
  induction a using Nat.strongRecOn with
  | ind a ih =>
    intro q hs h1 h2
    by_cases e : q = a
    · subst e; rfl
    by_cases hk : kd xs a = 5
    · have h0 : 0 < a := by omega
      have hb := root_back hk h0 rfl
      have hg : q ≤ grp xs (a - 1) := by
        have := grp_mono xs (show q ≤ a - 1 by omega)
        rw [grp_of_start hs] at this; exact this
      rw [hb] at h1 ⊢
      exact ih _ (by have := grp_le xs (a - 1); omega) q hs h1 hg
    · rw [root_self (.inl hk)] at h1; omega

theorem clu_clu (xs : List Int) (p : Nat) : clu xs (clu xs p) = clu xs p := by
  rw [clu_of (rfl : grp xs p = grp xs p)]
  split
  · rename_i h
    have hs : Start xs (root xs (grp xs p)) := .inr (by rw [h]; decide)
    rw [clu_of (grp_of_start hs), root_self (.inl (by rw [h]; decide)), if_pos h]
  · rename_i h
    rw [clu_of (grp_grp xs p), if_neg h]
theorem clu_start {xs : List Int} {p q : Nat} (hq : clu xs q = q) (h : q ≤ p) : q ≤ clu xs p := by
  have hg : grp xs q = q := by
    have h1 := grp_le xs q
    have h2 := root_le xs (grp xs q)
    have h3 := clu_of (rfl : grp xs q = grp xs q)
    split at h3 <;> omega
  have hm := grp_mono xs h
  rw [hg] at hm
  rw [clu_of (rfl : grp xs p = grp xs p)]
  split
  · rename_i h4
    rcases Nat.lt_or_ge (root xs (grp xs p)) q with hlt | hge
    · have hr := root_between xs (grp xs p) q (by rw [← hg]; exact grp_start xs q) hlt hm
      have h3 := clu_of hg
      rw [hr, if_pos h4, hq] at h3
      omega
    · exact hge
  · exact hm

theorem clusters_mem {xs : List Int} {q : Nat} : q ∈ clustersL xs ↔ q < xs.length ∧ clu xs q = q := by
  rw [clusters_eq]; simp [rclusters]
theorem clusters_sorted (xs : List Int) : (clustersL xs).Pairwise (· < ·) := by
  rw [clusters_eq]; exact List.Pairwise.filter _ List.pairwise_lt_range
theorem clusters_lt {xs : List Int} {i j a b : Nat} (hi : (clustersL xs)[i]? = some a) (hj : (clustersL xs)[j]? = some b) (h : i < j) : a < b := by
  obtain ⟨h1, rfl⟩ := List.getElem?_eq_some_iff.1 hi
  obtain ⟨h2, rfl⟩ := List.getElem?_eq_some_iff.1 hj
  exact List.pairwise_iff_getElem.1 (clusters_sorted xs) i j h1 h2 h
theorem clusters_idx {xs : List Int} {i a : Nat} (hi : (clustersL xs)[i]? = some a) : a < xs.length ∧ clu xs a = a := clusters_mem.1 (List.mem_of_getElem? hi)
theorem clusters_zero {xs : List Int} (h : 0 < xs.length) : (clustersL xs)[0]? = some 0 := by
  have hm : 0 ∈ clustersL xs := clusters_mem.2 ⟨h, by have := clu_le xs 0; omega⟩
  obtain ⟨i, hi⟩ := List.getElem?_of_mem hm
  cases i with
  | zero => exact hi
  | succ i =>
    have hl : 0 < (clustersL xs).length := by have := (List.getElem?_eq_some_iff.1 hi).1; omega
    have := clusters_lt (List.getElem?_eq_getElem hl) hi (by omega)
    omega
theorem clusters_pos (xs : List Int) : 0 < (clustersL xs).length ↔ 0 < xs.length := by
  constructor
  · intro h
    have := (clusters_idx (List.getElem?_eq_getElem h)).1
    omega
  · intro h
    exact (List.getElem?_eq_some_iff.1 (clusters_zero h)).1
/-- The place among clusters at which the search for a rune's cluster stops. -/
theorem clusters_at {xs : List Int} {p k a : Nat} (hp : p < xs.length) (ha : (clustersL xs)[k]? = some a) (hle : a ≤ p) (hn : ∀ b, (clustersL xs)[k + 1]? = some b → p < b) : a = clu xs p := by
  have h1 := clu_start (clusters_idx ha).2 hle
  have hm : clu xs p ∈ clustersL xs := clusters_mem.2 ⟨by have := clu_le xs p; omega, clu_clu xs p⟩
  obtain ⟨j, hj⟩ := List.getElem?_of_mem hm
  have hcl := clu_le xs p
  rcases Nat.lt_trichotomy j k with h | h | h
  · have := clusters_lt hj ha h; omega
  · subst h; rw [ha] at hj; injection hj
  · have hk : k + 1 < (clustersL xs).length := by have := (List.getElem?_eq_some_iff.1 hj).1; omega
    have hb := hn _ (List.getElem?_eq_getElem hk)
    by_cases e : k + 1 = j
    · subst e; rw [List.getElem?_eq_getElem hk] at hj; injection hj with hj; omega
    · have := clusters_lt (List.getElem?_eq_getElem hk) hj (by omega); omega
theorem clusters_mono {xs : List Int} {k k' p p' : Nat} (h1 : (clustersL xs)[k]? = some (clu xs p)) (h2 : (clustersL xs)[k']? = some (clu xs p')) (h : clu xs p ≤ clu xs p') : k ≤ k' := by
  rcases Nat.lt_or_ge k' k with hlt | hge
  · have := clusters_lt h2 h1 hlt; omega
  · exact hge
theorem order_clu {xs : List Int} {i p p' : Nat} (h1 : (orderL xs)[i]? = some p) (h2 : (orderL xs)[i + 1]? = some p') : clu xs p ≤ clu xs p' := by
  obtain ⟨l1, rfl⟩ := List.getElem?_eq_some_iff.1 h1
  obtain ⟨l2, rfl⟩ := List.getElem?_eq_some_iff.1 h2
  have h := List.pairwise_iff_getElem.1 (order_pw xs) i (i + 1) l1 l2 (by omega)
  unfold aheadB at h
  by_cases e : clu xs (orderL xs)[i] = clu xs (orderL xs)[i + 1]
  · omega
  · rw [if_pos e] at h; simp at h; omega
theorem order_lt {xs : List Int} {i p : Nat} (h : (orderL xs)[i]? = some p) : p < xs.length := (order_mem xs p).1 (List.mem_of_getElem? h)
theorem order_fresh {xs : List Int} {i p : Nat} (h : (orderL xs)[i]? = some p) : p ∉ (orderL xs).take i := by
  intro hm
  obtain ⟨j, hj⟩ := List.getElem?_of_mem hm
  rw [List.getElem?_take] at hj
  split at hj
  · rename_i hlt
    obtain ⟨l1, e1⟩ := List.getElem?_eq_some_iff.1 h
    obtain ⟨l2, e2⟩ := List.getElem?_eq_some_iff.1 hj
    have := List.pairwise_iff_getElem.1 (order_nodup xs) j i l2 l1 hlt
    exact this (by rw [e1, e2])
  · cases hj

-- marks
theorem nextK_put (a b : List Int) (m : Int) (hm : kind m = 3) : nextK (a ++ m :: b) = nextK (a ++ b) := by
  induction a with
  | nil => simp [nextK, hm]
  | cons x a ih => simp [nextK, ih]
theorem formsR_put (a b : List Int) (m : Int) (hm : kind m = 3) (p : Int) : formsR p (a ++ m :: b) = (formsR p (a ++ b)).take a.length ++ 0 :: (formsR p (a ++ b)).drop a.length := by
  induction a generalizing p with
  | nil => simp [formsR, hm, updK, fm]
  | cons x a ih => simp [formsR, ih, nextK_put a b m hm]
/-- The forms of those that are no marks. -/
def wantR : List Int → List Int → List Int
  | x :: l, f :: fs => if kind x = 3 then wantR l fs else f :: wantR l fs
  | _, _ => []
def few : List Int → List Int
  | [] => []
  | x :: l => if kind x = 3 then few l else x :: few l
theorem nextK_few (l : List Int) : nextK (few l) = nextK l := by
  induction l with
  | nil => rfl
  | cons x l ih => by_cases h : kind x = 3 <;> simp [nextK, few, h, ih]
theorem formsR_few (l : List Int) (p : Int) : formsR p (few l) = wantR l (formsR p l) := by
  induction l generalizing p with
  | nil => rfl
  | cons x l ih =>
    have hn := nextK_few l
    by_cases h : kind x = 3
    · simp [formsR, wantR, few, h, updK, ih]
    · simp [formsR, wantR, few, h, updK, ih, hn]
theorem few_snoc {l : List Int} {k : Nat} {x : Int} (hx : l[k]? = some x) : few (l.take (k + 1)) = few (l.take k) ++ if kind x = 3 then [] else [x] := by
  induction k generalizing l with
  | zero =>
    cases l with
    | nil => cases hx
    | cons y l =>
      simp at hx; subst hx
      by_cases h : kind y = 3 <;> simp [few, h]
  | succ k ih =>
    cases l with
    | nil => cases hx
    | cons y l =>
      simp only [List.getElem?_cons_succ] at hx
      simp only [List.take_succ_cons, few]
      split
      · exact ih hx
      · rw [ih hx]; rfl
theorem want_snoc {l fs : List Int} {k : Nat} {x f : Int} (hx : l[k]? = some x) (hf : fs[k]? = some f) : wantR (l.take (k + 1)) (fs.take (k + 1)) = wantR (l.take k) (fs.take k) ++ if kind x = 3 then [] else [f] := by
  induction k generalizing l fs with
  | zero =>
    cases l with
    | nil => cases hx
    | cons y l => cases fs with
      | nil => cases hf
      | cons g fs =>
        simp at hx hf; subst hx; subst hf
        by_cases h : kind y = 3 <;> simp [wantR, h]
  | succ k ih =>
    cases l with
    | nil => cases hx
    | cons y l => cases fs with
      | nil => cases hf
      | cons g fs =>
        simp only [List.getElem?_cons_succ] at hx hf
        simp only [List.take_succ_cons, wantR]
        split
        · exact ih hx hf
        · rw [ih hx hf]; rfl
theorem want_few_len (l fs : List Int) (h : l.length = fs.length) : (wantR l fs).length = (few l).length := by
  induction l generalizing fs with
  | nil => rfl
  | cons x l ih => cases fs with
    | nil => simp at h
    | cons f fs =>
      simp at h
      have := ih fs h
      by_cases e : kind x = 3 <;> simp [wantR, few, e, this]

-- parts
section
variable {a b : List Int} {pl : Int}
theorem kd_front {p : Nat} (h : p < a.length) : kd (a ++ pl :: b) p = kd a p := by
  unfold kd; simp only [List.getD_eq_getElem?_getD]; rw [List.getElem?_append_left h]
theorem kd_pl : kd (a ++ pl :: b) a.length = kind pl := by
  unfold kd; simp
theorem getD_front {p : Nat} (h : p < a.length) : (a ++ pl :: b).getD p 0 = a.getD p 0 := by
  simp only [List.getD_eq_getElem?_getD]; rw [List.getElem?_append_left h]
theorem getD_back (q : Nat) : (a ++ pl :: b).getD (a.length + 1 + q) 0 = b.getD q 0 := by
  simp only [List.getD_eq_getElem?_getD]
  rw [List.getElem?_append_right (by omega)]
  rw [show a.length + 1 + q - a.length = q + 1 by omega, List.getElem?_cons_succ]
theorem kd_back (q : Nat) : kd (a ++ pl :: b) (a.length + 1 + q) = kd b q := by unfold kd; rw [getD_back]
theorem grp_front {p : Nat} (h : p < a.length) : grp (a ++ pl :: b) p = grp a p := by
  induction p with
  | zero => rfl
  | succ p ih =>
    unfold grp
    rw [getD_front h, ih (by omega)]
theorem cback_front {f c : Nat} (h : c < a.length) : cback (a ++ pl :: b) f c = cback a f c := by
  induction f generalizing c with
  | zero => rfl
  | succ f ih =>
    unfold cback
    rw [getD_front h]
    split
    · rw [grp_front (by omega)]; exact ih (by have := grp_le a (c - 1); omega)
    · rfl
theorem clu_front {p : Nat} (h : p < a.length) : clu (a ++ pl :: b) p = clu a p := by
  unfold clu
  have h1 := grp_le a p
  have h2 := cback_le a (grp a p) (grp a p)
  simp only
  rw [grp_front h, cback_front (by omega), getD_front (by omega)]
theorem ahead_front {p q : Nat} (hp : p < a.length) (hq : q < a.length) : aheadB (a ++ pl :: b) p q = aheadB a p q := by
  unfold aheadB
  rw [clu_front hp, clu_front hq, grp_front hp, grp_front hq, getD_front hp, getD_front hq]
theorem grp_plain (h0 : kind pl = 0) : grp (a ++ pl :: b) a.length = a.length := by
  have hs : Start (a ++ pl :: b) a.length := .inr (by rw [kd_pl, h0]; decide)
  exact grp_of_start hs
theorem clu_plain (h0 : kind pl = 0) : clu (a ++ pl :: b) a.length = a.length := by
  rw [clu_of (grp_plain h0), root_self (.inl (by rw [kd_pl, h0]; decide)), kd_pl, h0]; rfl
theorem grp_back (hb : kd b 0 ≠ 3) (q : Nat) : grp (a ++ pl :: b) (a.length + 1 + q) = a.length + 1 + grp b q := by
  induction q with
  | zero =>
    have hs : Start (a ++ pl :: b) (a.length + 1 + 0) := .inr (by rw [kd_back]; exact hb)
    rw [grp_of_start hs]; rfl
  | succ q ih =>
    show grp (a ++ pl :: b) (a.length + 1 + q + 1) = _
    unfold grp
    rw [show a.length + 1 + q + 1 = a.length + 1 + (q + 1) by omega, getD_back, ih]
    split <;> rfl
theorem root_parts (h0 : kind pl = 0) (hb : kd b 0 ≠ 3) (q : Nat) (hs : Start b q) : (root (a ++ pl :: b) (a.length + 1 + q) = a.length + 1 + root b q) ∨ (root (a ++ pl :: b) (a.length + 1 + q) = a.length ∧ root b q = 0 ∧ kd b 0 = 5) := by
  induction q using Nat.strongRecOn with
  | ind q ih =>
    by_cases hk : kd b q = 5
    · have hk' : kd (a ++ pl :: b) (a.length + 1 + q) = 5 := by rw [kd_back]; exact hk
      by_cases hq : q = 0
      · subst hq
        right
        have hr : grp (a ++ pl :: b) (a.length + 1 + 0 - 1) = a.length := by rw [show a.length + 1 + 0 - 1 = a.length by omega]; exact grp_plain h0
        rw [root_back hk' (by omega) hr, root_self (.inl (by rw [kd_pl, h0]; decide))]
        exact ⟨rfl, root_self (.inr rfl), hk⟩
      · have hr : grp (a ++ pl :: b) (a.length + 1 + q - 1) = a.length + 1 + grp b (q - 1) := by
          rw [show a.length + 1 + q - 1 = a.length + 1 + (q - 1) by omega]; exact grp_back hb _
        rw [root_back hk' (by omega) hr, root_back hk (by omega) rfl]
        exact ih _ (by have := grp_le b (q - 1); omega) (grp_start b _)
    · left
      rw [root_self (.inl (by rw [kd_back]; exact hk)), root_self (.inl hk)]
theorem clu_back (h0 : kind pl = 0) (hb : kd b 0 ≠ 3) (q : Nat) : clu (a ++ pl :: b) (a.length + 1 + q) = a.length + 1 + clu b q := by
  rw [clu_of (grp_back hb q), clu_of (rfl : grp b q = grp b q)]
  rcases root_parts (a := a) (pl := pl) h0 hb (grp b q) (grp_start b q) with h | ⟨h1, h2, h3⟩
  · rw [h, kd_back]
    split <;> rfl
  · rw [h1, h2, kd_pl, h0, h3]; rfl
theorem ahead_back (h0 : kind pl = 0) (hb : kd b 0 ≠ 3) (p q : Nat) : aheadB (a ++ pl :: b) (a.length + 1 + p) (a.length + 1 + q) = aheadB b p q := by
  unfold aheadB
  rw [clu_back h0 hb, clu_back h0 hb, grp_back hb, grp_back hb, getD_back, getD_back]
  have e (x y : Nat) : (a.length + 1 + x = a.length + 1 + y) = (x = y) := by simp
  have e2 (x y : Nat) : (a.length + 1 + x < a.length + 1 + y) = (x < y) := by simp
  simp only [e, e2, ne_eq]
theorem order_parts (h0 : kind pl = 0) (hb : kd b 0 ≠ 3) : orderL (a ++ pl :: b) = orderL a ++ [a.length] ++ (orderL b).map (fun q => a.length + 1 + q) := by
  apply order_unique
  · rw [List.append_assoc, List.pairwise_append]
    refine ⟨?_, ?_, ?_⟩
    · refine List.Pairwise.imp_of_mem ?_ (order_pw a)
      intro x y hx hy h
      rw [ahead_front ((order_mem a x).1 hx) ((order_mem a y).1 hy)]; exact h
    · rw [List.singleton_append, List.pairwise_cons]
      refine ⟨?_, ?_⟩
      · intro x hx
        obtain ⟨q, _, rfl⟩ := List.mem_map.1 hx
        apply ahead_clu
        rw [clu_plain h0, clu_back h0 hb]; omega
      · rw [List.pairwise_map]
        refine List.Pairwise.imp ?_ (order_pw b)
        intro x y h
        rw [ahead_back h0 hb]; exact h
    · intro x hx y hy
      have hx := (order_mem a x).1 hx
      have h1 := clu_le a x
      apply ahead_clu
      rw [clu_front hx]
      rcases List.mem_append.1 hy with hy | hy
      · simp at hy; subst hy; rw [clu_plain h0]; omega
      · obtain ⟨q, _, rfl⟩ := List.mem_map.1 hy
        rw [clu_back h0 hb]; omega
  · intro x
    simp only [List.mem_append, List.mem_singleton, List.mem_map, order_mem, List.length_append, List.length_cons]
    constructor
    · rintro ((h | h) | ⟨q, h, rfl⟩) <;> omega
    · intro h
      rcases Nat.lt_trichotomy x a.length with h1 | h1 | h1
      · exact .inl (.inl h1)
      · exact .inl (.inr h1)
      · exact .inr ⟨x - a.length - 1, by omega, by omega⟩
theorem inc_unique : ∀ (l1 l2 : List Nat), l1.Pairwise (· < ·) → l2.Pairwise (· < ·) → (∀ x, x ∈ l1 ↔ x ∈ l2) → l1 = l2 :=
  fun l1 l2 h1 h2 h => sorted_unique (r := (· < ·)) (fun a b h => by omega) l1 l2 h1 h2 h
theorem clusters_parts (h0 : kind pl = 0) (hb : kd b 0 ≠ 3) : clustersL (a ++ pl :: b) = clustersL a ++ [a.length] ++ (clustersL b).map (fun q => a.length + 1 + q) := by
  apply inc_unique
  · exact clusters_sorted _
  · rw [List.append_assoc, List.pairwise_append]
    refine ⟨clusters_sorted a, ?_, ?_⟩
    · rw [List.singleton_append, List.pairwise_cons]
      refine ⟨?_, ?_⟩
      · intro x hx
        obtain ⟨q, _, rfl⟩ := List.mem_map.1 hx
        omega
      · rw [List.pairwise_map]
        refine List.Pairwise.imp ?_ (clusters_sorted b)
        intro x y h
        omega
    · intro x hx y hy
      have hx := (clusters_mem.1 hx).1
      rcases List.mem_append.1 hy with hy | hy
      · simp at hy; subst hy; exact hx
      · obtain ⟨q, _, rfl⟩ := List.mem_map.1 hy
        omega
  · intro x
    simp only [List.mem_append, List.mem_singleton, List.mem_map, clusters_mem, List.length_append, List.length_cons]
    constructor
    · rintro ⟨h1, h2⟩
      rcases Nat.lt_trichotomy x a.length with h | h | h
      · rw [clu_front h] at h2; exact .inl (.inl ⟨h, h2⟩)
      · exact .inl (.inr h)
      · refine .inr ⟨x - a.length - 1, ⟨by omega, ?_⟩, by omega⟩
        have e : x = a.length + 1 + (x - a.length - 1) := by omega
        rw [e, clu_back h0 hb] at h2
        omega
    · rintro ((⟨h1, h2⟩ | h) | ⟨q, ⟨h1, h2⟩, rfl⟩)
      · exact ⟨by omega, by rw [clu_front h1]; exact h2⟩
      · subst h; exact ⟨by omega, clu_plain h0⟩
      · exact ⟨by omega, by rw [clu_back h0 hb, h2]⟩
theorem nextK_plain (h0 : kind pl = 0) (l : List Int) : nextK (l ++ pl :: b) = nextK l := by
  induction l with
  | nil => simp [nextK, h0]
  | cons x l ih => simp [nextK, ih]
theorem formsR_zero_one (p p' : Int) (l : List Int) (h : p ≠ 2) (h' : p' ≠ 2) : formsR p l = formsR p' l := by
  induction l generalizing p p' with
  | nil => rfl
  | cons x l ih =>
    simp only [formsR]
    have e : fm p (kind x) (nextK l) = fm p' (kind x) (nextK l) := by unfold fm; simp [h, h']
    rw [e]
    unfold updK
    by_cases hx : kind x = 3
    · simp only [hx, if_true]; rw [ih p p' h h']
    · simp only [hx, if_false]
theorem formsR_parts (h0 : kind pl = 0) (p : Int) : formsR p (a ++ pl :: b) = formsR p a ++ 0 :: formsR 0 b := by
  induction a generalizing p with
  | nil => simp [formsR, h0, updK, fm]
  | cons x a ih => simp [formsR, ih, nextK_plain h0]
end

end Go.Proofs.Ytdacfcfgikllpaa
