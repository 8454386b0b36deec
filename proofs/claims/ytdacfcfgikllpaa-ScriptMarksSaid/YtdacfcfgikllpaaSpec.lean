/- The plain functions of the script layer: what each Go function computes, on lists; forms. -/
namespace Go.Proofs.Ytdacfcfgikllpaa

def kind (r : Int) : Int :=
  if 57344 ≤ r ∧ r ≤ 57599 then 1 else if 57600 ≤ r ∧ r ≤ 57855 then 2 else if 57856 ≤ r ∧ r ≤ 58111 then 3
  else if 58112 ≤ r ∧ r ≤ 58367 then 4 else if 58368 ≤ r ∧ r ≤ 58623 then 5 else 0

def cls (r : Int) : Int := if 57856 ≤ r ∧ r ≤ 58111 then r % 16 else 0

theorem kind_bd (r : Int) : 0 ≤ kind r ∧ kind r ≤ 5 := by unfold kind; omega
theorem cls_bd (r : Int) : 0 ≤ cls r ∧ cls r ≤ 15 := by unfold cls; omega

/-- The form of a rune of kind k, the kinds of its neighbours being p and q. -/
def fm (p k q : Int) : Int :=
  if k = 1 ∨ k = 2 then
    (if p = 2 then (if k = 2 ∧ (q = 1 ∨ q = 2) then 3 else 4) else (if k = 2 ∧ (q = 1 ∨ q = 2) then 2 else 1))
  else 0

/-- The kind of the first rune that is no mark; 0, if there is none. -/
def nextK : List Int → Int
  | [] => 0
  | x :: r => if kind x = 3 then nextK r else kind x

def updK (p x : Int) : Int := if kind x = 3 then p else kind x

def lastK (p : Int) (l : List Int) : Int := l.foldl updK p

def formsR : Int → List Int → List Int
  | _, [] => []
  | p, x :: r => fm p (kind x) (nextK r) :: formsR (updK p x) r

def forms (xs : List Int) : List Int := formsR 0 xs

theorem formsR_length (p : Int) (xs : List Int) : (formsR p xs).length = xs.length := by
  induction xs generalizing p with
  | nil => rfl
  | cons x r ih => simp [formsR, ih]
theorem forms_length (xs : List Int) : (forms xs).length = xs.length := formsR_length 0 xs

def allMarks (l : List Int) : Prop := ∀ m ∈ l, kind m = 3

theorem nextK_marks {l : List Int} (h : allMarks l) (r : List Int) : nextK (l ++ r) = nextK r := by
  induction l with
  | nil => rfl
  | cons x l ih =>
    have hx := h x (by simp)
    simp [nextK, hx, ih (fun m hm => h m (by simp [hm]))]
theorem nextK_snoc_mark (l : List Int) (x : Int) (h : kind x = 3) : nextK (l ++ [x]) = nextK l := by
  induction l with
  | nil => simp [nextK, h]
  | cons y l ih => simp [nextK, ih]
theorem nextK_app_pos {y : Int} (l1 l2 r : List Int) (hy : kind y ≠ 3) : nextK (l1 ++ y :: l2 ++ r) = nextK (l1 ++ y :: l2) := by
  induction l1 with
  | nil => simp [nextK, hy]
  | cons z l ih =>
    simp only [List.cons_append, nextK]
    split
    · exact ih
    · rfl
theorem lastK_marks {l : List Int} (h : allMarks l) (p : Int) : lastK p l = p := by
  induction l generalizing p with
  | nil => rfl
  | cons x l ih =>
    have hx := h x (by simp)
    simp only [lastK, List.foldl_cons, updK, hx, if_true]
    exact ih (fun m hm => h m (by simp [hm])) p

theorem formsR_snoc_mark (p : Int) (l : List Int) (x : Int) (h : kind x = 3) : formsR p (l ++ [x]) = formsR p l ++ [0] := by
  induction l generalizing p with
  | nil => simp [formsR, h, fm]
  | cons y l ih => simp [formsR, nextK_snoc_mark l x h, ih]
theorem formsR_marks (p : Int) {l : List Int} (h : allMarks l) (r : List Int) : formsR p (l ++ r) = List.replicate l.length 0 ++ formsR p r := by
  induction l with
  | nil => simp
  | cons x l ih =>
    have hx := h x (by simp)
    have hu : updK p x = p := by simp [updK, hx]
    simp [formsR, hx, fm, hu, ih (fun m hm => h m (by simp [hm])), List.replicate_succ]
theorem formsR_app (p : Int) (l1 l2 : List Int) {y : Int} (hy : kind y ≠ 3) (r : List Int) :
    formsR p (l1 ++ y :: (l2 ++ r)) = (formsR p (l1 ++ [y])).take l1.length ++ formsR (lastK p l1) (y :: (l2 ++ r)) := by
  induction l1 generalizing p with
  | nil => simp [lastK]
  | cons z l ih =>
    have e : nextK (l ++ y :: (l2 ++ r)) = nextK (l ++ [y]) := by
      have := nextK_app_pos l [] (l2 ++ r) hy
      simpa using this
    simp only [List.cons_append, formsR, List.length_cons, List.take_succ_cons, ih, e, lastK, List.foldl_cons]

/-- What the program's loop does with the forms at a rune that is no mark. -/
def joinF (ka kb : Int) (fs : List Int) (a b : Nat) : List Int :=
  if ka = 2 ∧ (kb = 1 ∨ kb = 2) then
    (if fs[a]? = some 4 then (fs.set b 4).set a 3 else (fs.set b 4).set a 2)
  else fs

/-- The place of the last rune that is no mark among the first k. -/
def Ah (xs : List Int) (k : Nat) (z : Int) : Prop :=
  (z = -1 ∧ allMarks (xs.take k)) ∨ ∃ (f : Nat) (y : Int), z = f ∧ f < k ∧ xs[f]? = some y ∧ kind y ≠ 3 ∧ ∀ (j : Nat) (m : Int), f < j → j < k → xs[j]? = some m → kind m = 3

def fpre (xs : List Int) (k : Nat) : List Int := formsR 0 (xs.take k) ++ List.replicate (xs.length - k) 0
theorem fpre_length (xs : List Int) (k : Nat) (h : k ≤ xs.length) : (fpre xs k).length = xs.length := by
  simp [fpre, formsR_length]; omega

theorem Ah_mark {xs : List Int} {k : Nat} {z x : Int} (h : Ah xs k z) (hx : xs[k]? = some x) (hk : kind x = 3) : Ah xs (k + 1) z := by
  rcases h with ⟨rfl, h⟩ | ⟨f, y, rfl, hf, hy, hyk, hm⟩
  · refine .inl ⟨rfl, ?_⟩
    rw [List.take_add_one, hx]
    intro m hm
    simp at hm
    rcases hm with hm | rfl
    · exact h m hm
    · exact hk
  · refine .inr ⟨f, y, rfl, by omega, hy, hyk, fun j m h1 h2 h3 => ?_⟩
    by_cases e : j = k
    · subst e; rw [hx] at h3; injection h3 with h3; rw [← h3]; exact hk
    · exact hm j m h1 (by omega) h3
theorem Ah_self {xs : List Int} {k : Nat} {x : Int} (hx : xs[k]? = some x) (hk : kind x ≠ 3) : Ah xs (k + 1) k :=
  .inr ⟨k, x, rfl, by omega, hx, hk, fun j m h1 h2 _ => by omega⟩

theorem fpre_step_mark {xs : List Int} {k : Nat} {x : Int} (hx : xs[k]? = some x) (hk : kind x = 3) : fpre xs (k + 1) = fpre xs k := by
  have hl := (List.getElem?_eq_some_iff.1 hx).1
  unfold fpre
  rw [List.take_add_one, hx]
  simp only [Option.toList]
  rw [formsR_snoc_mark _ _ _ hk]
  have e : xs.length - k = (xs.length - (k + 1)) + 1 := by omega
  rw [e, List.replicate_succ]
  simp

theorem set_app_mid {l r : List Int} {a : Int} (n : Nat) (h : l.length = n) (v : Int) : (l ++ a :: r).set n v = l ++ v :: r := by
  subst h; simp

theorem fpre_step_none {xs : List Int} {k : Nat} {x : Int} (hx : xs[k]? = some x) (h : allMarks (xs.take k)) :
    fpre xs (k + 1) = if kind x = 1 ∨ kind x = 2 then (fpre xs k).set k 1 else fpre xs k := by
  have hl := (List.getElem?_eq_some_iff.1 hx).1
  unfold fpre
  rw [List.take_add_one, hx]
  simp only [Option.toList]
  have h1 := formsR_marks 0 h [x]
  have h2 := formsR_marks 0 h []
  simp only [List.append_nil] at h2
  rw [h1, h2]
  have e : xs.length - k = (xs.length - (k + 1)) + 1 := by omega
  have e2 : (xs.take k).length = k := by simp; omega
  rw [e, List.replicate_succ, e2]
  simp only [formsR, nextK, List.append_nil]
  by_cases hc : kind x = 1 ∨ kind x = 2
  · rw [if_pos hc, set_app_mid k (by simp)]
    simp [fm, hc]
  · rw [if_neg hc]
    simp [fm, hc]

theorem fpre_step_some {xs : List Int} {k f : Nat} {x y : Int} (hx : xs[k]? = some x) (hk : kind x ≠ 3) (hf : f < k) (hy : xs[f]? = some y) (hyk : kind y ≠ 3)
    (hm : ∀ (j : Nat) (m : Int), f < j → j < k → xs[j]? = some m → kind m = 3) :
    fpre xs (k + 1) = joinF (kind y) (kind x) (if kind x = 1 ∨ kind x = 2 then (fpre xs k).set k 1 else fpre xs k) f k := by
  have hl := (List.getElem?_eq_some_iff.1 hx).1
  obtain ⟨l1, hl1⟩ : ∃ l1, l1 = xs.take f := ⟨_, rfl⟩
  obtain ⟨l2, hl2⟩ : ∃ l2, l2 = (xs.take k).drop (f + 1) := ⟨_, rfl⟩
  have hlen1 : l1.length = f := by rw [hl1]; simp; omega
  have hall : allMarks l2 := by
    intro m hm2
    rw [hl2] at hm2
    obtain ⟨j, hj⟩ := List.mem_iff_getElem?.1 hm2
    rw [List.getElem?_drop, List.getElem?_take] at hj
    split at hj
    · exact hm _ m (by omega) (by assumption) hj
    · cases hj
  have hdec : xs.take k = l1 ++ y :: l2 := by
    have h1 : xs.take k = (xs.take k).take f ++ (xs.take k).drop f := (List.take_append_drop f _).symm
    have h2 : (xs.take k).take f = l1 := by rw [List.take_take, hl1]; congr 1; omega
    have h3 : (xs.take k).drop f = y :: l2 := by
      have hfl : f < (xs.take k).length := by simp; omega
      rw [List.drop_eq_getElem_cons hfl, hl2]
      congr 1
      have : (xs.take k)[f]? = some y := by rw [List.getElem?_take, if_pos hf]; exact hy
      exact (List.getElem?_eq_some_iff.1 this).2
    rw [h2, h3] at h1
    exact h1
  have hlen2 : l2.length + f + 1 = k := by
    have : (xs.take k).length = k := by simp; omega
    rw [hdec] at this
    simp at this; omega
  unfold fpre
  rw [List.take_add_one, hx]
  simp only [Option.toList]
  rw [hdec]
  obtain ⟨c1, hc1⟩ : ∃ c1, c1 = (formsR 0 (l1 ++ [y])).take l1.length := ⟨_, rfl⟩
  have hcl : c1.length = f := by rw [hc1]; simp [formsR_length]; omega
  have e1 : formsR 0 (l1 ++ y :: l2) = c1 ++ (fm (lastK 0 l1) (kind y) 0 :: List.replicate l2.length 0) := by
    have h := formsR_app 0 l1 l2 hyk []
    simp only [List.append_nil] at h
    rw [h, hc1]
    congr 1
    have hn : nextK l2 = 0 := by
      have := nextK_marks hall []
      simpa [nextK] using this
    have hr : formsR (updK (lastK 0 l1) y) l2 = List.replicate l2.length 0 := by
      have := formsR_marks (updK (lastK 0 l1) y) hall []
      simpa [formsR] using this
    simp only [formsR, hn, hr]
  have e2 : formsR 0 (l1 ++ y :: l2 ++ [x]) = c1 ++ (fm (lastK 0 l1) (kind y) (kind x) :: (List.replicate l2.length 0 ++ [fm (kind y) (kind x) 0])) := by
    have h := formsR_app 0 l1 l2 hyk [x]
    have h' : l1 ++ y :: l2 ++ [x] = l1 ++ y :: (l2 ++ [x]) := by simp
    rw [h', h, hc1]
    congr 1
    have hn : nextK (l2 ++ [x]) = kind x := by
      rw [nextK_marks hall]
      simp [nextK, hk]
    have hu : updK (lastK 0 l1) y = kind y := by simp [updK, hyk]
    simp only [formsR, hn, hu]
    rw [formsR_marks _ hall]
    simp [formsR, nextK]
  rw [e1, e2]
  have e3 : xs.length - k = (xs.length - (k + 1)) + 1 := by omega
  rw [e3, List.replicate_succ]
  generalize List.replicate (xs.length - (k + 1)) (0 : Int) = tl
  generalize hz : List.replicate l2.length (0 : Int) = z2
  have hzl : z2.length = l2.length := by rw [← hz]; simp
  generalize lastK 0 l1 = p
  have hb := kind_bd x
  -- the two lists
  have S1 : ∀ u v t : Int, (c1 ++ u :: z2 ++ v :: tl).set k t = c1 ++ u :: z2 ++ t :: tl := fun u v t => set_app_mid k (by simp [hcl, hzl]; omega) t
  have S2 : ∀ u v t : Int, (c1 ++ u :: z2 ++ v :: tl).set f t = c1 ++ t :: z2 ++ v :: tl := fun u v t => by
    have := set_app_mid (l := c1) (r := z2 ++ v :: tl) (a := u) f hcl t
    simpa using this
  have G : ∀ u v : Int, (c1 ++ u :: z2 ++ v :: tl)[f]? = some u := fun u v => by
    simp [← hcl]
  by_cases hc : kind x = 1 ∨ kind x = 2
  · rw [if_pos hc, S1]
    unfold joinF
    by_cases hy2 : kind y = 2
    · rw [if_pos ⟨hy2, hc⟩, G]
      by_cases hp : p = 2
      · have : fm p (kind y) 0 = 4 := by simp [fm, hy2, hp]
        rw [this, if_pos rfl, S1, S2]
        have a1 : fm p (kind y) (kind x) = 3 := by simp [fm, hy2, hp, hc]
        have a2 : fm (kind y) (kind x) 0 = 4 := by simp [fm, hy2, hc]
        rw [a1, a2]; simp
      · have : fm p (kind y) 0 = 1 := by simp [fm, hy2, hp]
        rw [this, if_neg (by simp), S1, S2]
        have a1 : fm p (kind y) (kind x) = 2 := by simp [fm, hy2, hp, hc]
        have a2 : fm (kind y) (kind x) 0 = 4 := by simp [fm, hy2, hc]
        rw [a1, a2]; simp
    · rw [if_neg (by simp [hy2])]
      have a1 : fm p (kind y) (kind x) = fm p (kind y) 0 := by simp [fm, hy2]
      have a2 : fm (kind y) (kind x) 0 = 1 := by simp [fm, hy2, hc]
      rw [a1, a2]; simp
  · rw [if_neg hc]
    unfold joinF
    rw [if_neg (by simp [hc])]
    have a1 : fm p (kind y) (kind x) = fm p (kind y) 0 := by simp [fm, hc]
    have a2 : fm (kind y) (kind x) 0 = 0 := by simp [fm, hc]
    rw [a1, a2]; simp

theorem fpre_zero (xs : List Int) : fpre xs 0 = List.replicate xs.length 0 := by simp [fpre, formsR]
theorem fpre_all (xs : List Int) : fpre xs xs.length = forms xs := by simp [fpre, forms]

end Go.Proofs.Ytdacfcfgikllpaa
