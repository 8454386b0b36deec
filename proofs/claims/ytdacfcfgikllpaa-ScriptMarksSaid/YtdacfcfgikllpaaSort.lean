/- Plain: rows of places as functions, and what insertion sort, rotation and the symmetric merge do with them. -/
namespace Go.Proofs.Ytdacfcfgikllpaa

/-- By class, and those of one class by place. -/
def lex (K : Nat → Int) (p q : Nat) : Prop := K p < K q ∨ (K p = K q ∧ p < q)
def Srt (K : Nat → Int) (f : Nat → Nat) (a b : Nat) : Prop := ∀ i j, a ≤ i → i < j → j < b → lex K (f i) (f j)
def Apart (f : Nat → Nat) (a m b : Nat) : Prop := ∀ i j, a ≤ i → i < m → m ≤ j → j < b → f i < f j
def Inc (f : Nat → Nat) (a b : Nat) : Prop := ∀ i j, a ≤ i → i < j → j < b → f i < f j
/-- On [a, b) the same values in some order; elsewhere the same. -/
def Prm (f f' : Nat → Nat) (a b : Nat) : Prop :=
  (∀ i, i < a ∨ b ≤ i → f' i = f i) ∧ (∀ i, a ≤ i → i < b → ∃ j, a ≤ j ∧ j < b ∧ f' i = f j) ∧ (∀ i, a ≤ i → i < b → ∃ j, a ≤ j ∧ j < b ∧ f i = f' j)

def updF (f : Nat → Nat) (i x : Nat) : Nat → Nat := fun t => if t = i then x else f t
def swp (f : Nat → Nat) (i j : Nat) : Nat → Nat := fun t => if t = i then f j else if t = j then f i else f t
def swR (f : Nat → Nat) (a b n : Nat) : Nat → Nat := fun x => if a ≤ x ∧ x < a + n then f (x - a + b) else if b ≤ x ∧ x < b + n then f (x - b + a) else f x
def rot (f : Nat → Nat) (a m b : Nat) : Nat → Nat := fun x => if a ≤ x ∧ x < a + (b - m) then f (x + (m - a)) else if a + (b - m) ≤ x ∧ x < b then f (x - (b - m)) else f x

theorem lex_trans {K : Nat → Int} {p q r : Nat} (h1 : lex K p q) (h2 : lex K q r) : lex K p r := by unfold lex at *; omega
theorem lex_le {K : Nat → Int} {p q : Nat} (h : lex K p q) : K p ≤ K q := by unfold lex at h; omega
theorem Srt.le {K : Nat → Int} {f : Nat → Nat} {a b i j : Nat} (h : Srt K f a b) (h1 : a ≤ i) (h2 : i ≤ j) (h3 : j < b) : K (f i) ≤ K (f j) := by
  by_cases e : i = j
  · rw [e]; omega
  · exact lex_le (h i j h1 (by omega) h3)
theorem Srt.sub {K : Nat → Int} {f : Nat → Nat} {a b a' b' : Nat} (h : Srt K f a b) (h1 : a ≤ a') (h2 : b' ≤ b) : Srt K f a' b' := fun i j x y z => h i j (by omega) y (by omega)
theorem Srt.small {K : Nat → Int} {f : Nat → Nat} {a b : Nat} (h : b ≤ a + 1) : Srt K f a b := fun i j x y z => by omega
theorem Srt.congr {K : Nat → Int} {f f' : Nat → Nat} {a b : Nat} (h : Srt K f a b) (e : ∀ i, a ≤ i → i < b → f' i = f i) : Srt K f' a b := fun i j x y z => by
  rw [e i (by omega) (by omega), e j (by omega) (by omega)]; exact h i j x y z

theorem Prm.refl (f : Nat → Nat) (a b : Nat) : Prm f f a b := ⟨fun _ _ => rfl, fun i h1 h2 => ⟨i, h1, h2, rfl⟩, fun i h1 h2 => ⟨i, h1, h2, rfl⟩⟩
theorem Prm.trans {f g h : Nat → Nat} {a b : Nat} (p : Prm f g a b) (q : Prm g h a b) : Prm f h a b := by
  refine ⟨fun i hi => (q.1 i hi).trans (p.1 i hi), fun i h1 h2 => ?_, fun i h1 h2 => ?_⟩
  · obtain ⟨j, j1, j2, e⟩ := q.2.1 i h1 h2
    obtain ⟨k, k1, k2, e2⟩ := p.2.1 j j1 j2
    exact ⟨k, k1, k2, e.trans e2⟩
  · obtain ⟨j, j1, j2, e⟩ := p.2.2 i h1 h2
    obtain ⟨k, k1, k2, e2⟩ := q.2.2 j j1 j2
    exact ⟨k, k1, k2, e.trans e2⟩
theorem Prm.mono {f g : Nat → Nat} {a b a' b' : Nat} (p : Prm f g a b) (ha : a' ≤ a) (hb : b ≤ b') : Prm f g a' b' := by
  refine ⟨fun i hi => p.1 i (by omega), fun i h1 h2 => ?_, fun i h1 h2 => ?_⟩
  · by_cases hi : a ≤ i ∧ i < b
    · obtain ⟨j, j1, j2, e⟩ := p.2.1 i hi.1 hi.2
      exact ⟨j, by omega, by omega, e⟩
    · exact ⟨i, h1, h2, p.1 i (by omega)⟩
  · by_cases hi : a ≤ i ∧ i < b
    · obtain ⟨j, j1, j2, e⟩ := p.2.2 i hi.1 hi.2
      exact ⟨j, by omega, by omega, e⟩
    · exact ⟨i, h1, h2, (p.1 i (by omega)).symm⟩
theorem Prm.swp (f : Nat → Nat) {a b i j : Nat} (hi : a ≤ i ∧ i < b) (hj : a ≤ j ∧ j < b) : Prm f (swp f i j) a b := by
  refine ⟨fun t ht => ?_, fun t h1 h2 => ?_, fun t h1 h2 => ?_⟩
  · unfold Ytdacfcfgikllpaa.swp
    rw [if_neg (by omega), if_neg (by omega)]
  · unfold Ytdacfcfgikllpaa.swp
    by_cases e1 : t = i
    · exact ⟨j, hj.1, hj.2, by rw [if_pos e1]⟩
    · by_cases e2 : t = j
      · exact ⟨i, hi.1, hi.2, by rw [if_neg e1, if_pos e2]⟩
      · exact ⟨t, h1, h2, by rw [if_neg e1, if_neg e2]⟩
  · unfold Ytdacfcfgikllpaa.swp
    by_cases e1 : t = i
    · refine ⟨j, hj.1, hj.2, ?_⟩
      by_cases e : j = i
      · rw [if_pos e, e1, e]
      · rw [if_neg e, if_pos rfl, e1]
    · by_cases e2 : t = j
      · exact ⟨i, hi.1, hi.2, by rw [if_pos rfl, e2]⟩
      · exact ⟨t, h1, h2, by rw [if_neg e1, if_neg e2]⟩
theorem Prm.rot (f : Nat → Nat) {a m b : Nat} (h1 : a ≤ m) (h2 : m ≤ b) : Prm f (rot f a m b) a b := by
  refine ⟨fun t ht => ?_, fun t t1 t2 => ?_, fun t t1 t2 => ?_⟩
  · unfold Ytdacfcfgikllpaa.rot
    rw [if_neg (by omega), if_neg (by omega)]
  · unfold Ytdacfcfgikllpaa.rot
    by_cases e : t < a + (b - m)
    · exact ⟨t + (m - a), by omega, by omega, by rw [if_pos ⟨t1, e⟩]⟩
    · exact ⟨t - (b - m), by omega, by omega, by rw [if_neg (by omega), if_pos (by omega)]⟩
  · unfold Ytdacfcfgikllpaa.rot
    by_cases e : t < m
    · exact ⟨t + (b - m), by omega, by omega, by rw [if_neg (by omega), if_pos (by omega)]; congr 1; omega⟩
    · exact ⟨t - (m - a), by omega, by omega, by rw [if_pos (by omega)]; congr 1; omega⟩
/-- What holds of all values of a segment holds of them in another order. -/
theorem Prm.all {f g : Nat → Nat} {a b : Nat} (p : Prm f g a b) {P : Nat → Prop} (h : ∀ i, a ≤ i → i < b → P (f i)) : ∀ i, a ≤ i → i < b → P (g i) := fun i h1 h2 => by
  obtain ⟨j, j1, j2, e⟩ := p.2.1 i h1 h2
  rw [e]; exact h j j1 j2
theorem Prm.out {f g : Nat → Nat} {a b i : Nat} (p : Prm f g a b) (h : i < a ∨ b ≤ i) : g i = f i := p.1 i h

-- insertion
/-- The inner loop of insertion sort: v (at j) goes down. -/
def Ins (K : Nat → Int) (f : Nat → Nat) (a j i : Nat) : Prop :=
  a ≤ j ∧ j ≤ i ∧ Srt K f a j ∧ (∀ x y, a ≤ x → x < j → j < y → y ≤ i → lex K (f x) (f y)) ∧ Srt K f (j + 1) (i + 1) ∧ (∀ y, j < y → y ≤ i → K (f j) < K (f y)) ∧ (∀ x, a ≤ x → x ≤ i → x ≠ j → f x < f j)
theorem Ins.start {K : Nat → Int} {f : Nat → Nat} {a i : Nat} (ha : a ≤ i) (h : Srt K f a i) (hp : ∀ x, a ≤ x → x < i → f x < f i) : Ins K f a i i :=
  ⟨ha, Nat.le_refl _, h, fun x y _ _ _ _ => by omega, Srt.small (by omega), fun y _ _ => by omega, fun x h1 h2 h3 => hp x h1 (by omega)⟩
theorem Ins.step {K : Nat → Int} {f : Nat → Nat} {a j i : Nat} (h : Ins K f a j i) (hj : a < j) (hk : K (f j) < K (f (j - 1))) : Ins K (swp f j (j - 1)) a (j - 1) i := by
  obtain ⟨h1, h2, h3, h4, h5, h6, h7⟩ := h
  have e0 : swp f j (j - 1) (j - 1) = f j := by unfold swp; rw [if_neg (by omega), if_pos rfl]
  have e1 : swp f j (j - 1) j = f (j - 1) := by unfold swp; rw [if_pos rfl]
  have e2 : ∀ x, x ≠ j → x ≠ j - 1 → swp f j (j - 1) x = f x := fun x hx hy => by unfold swp; rw [if_neg hx, if_neg hy]
  refine ⟨by omega, by omega, ?_, ?_, ?_, ?_, ?_⟩
  · exact (h3.sub (Nat.le_refl _) (by omega)).congr fun x a1 a2 => e2 x (by omega) (by omega)
  · intro x y a1 a2 a3 a4
    rw [e2 x (by omega) (by omega)]
    by_cases e : y = j
    · rw [e, e1]; exact h3 x (j - 1) a1 a2 (by omega)
    · rw [e2 y e (by omega)]; exact h4 x y a1 (by omega) (by omega) a4
  · intro x y a1 a2 a3
    rw [e2 y (by omega) (by omega)]
    by_cases e : x = j
    · rw [e, e1]; exact h4 (j - 1) y (by omega) (by omega) (by omega) (by omega)
    · rw [e2 x e (by omega)]; exact h5 x y (by omega) a2 a3
  · intro y a1 a2
    rw [e0]
    by_cases e : y = j
    · rw [e, e1]; exact hk
    · rw [e2 y e (by omega)]; exact h6 y (by omega) a2
  · intro x a1 a2 a3
    rw [e0]
    by_cases e : x = j
    · rw [e, e1]; exact h7 (j - 1) (by omega) (by omega) (by omega)
    · rw [e2 x e (by omega)]; exact h7 x a1 a2 e
theorem Ins.stop {K : Nat → Int} {f : Nat → Nat} {a j i : Nat} (h : Ins K f a j i) (hs : j = a ∨ ¬ K (f j) < K (f (j - 1))) : Srt K f a (i + 1) := by
  obtain ⟨h1, h2, h3, h4, h5, h6, h7⟩ := h
  have hj : ∀ x, a ≤ x → x < j → lex K (f x) (f j) := fun x a1 a2 => by
    have hp := h7 x a1 (by omega) (by omega)
    have hk : K (f x) ≤ K (f j) := by
      rcases hs with hs | hs
      · omega
      · have := h3.le a1 (show x ≤ j - 1 by omega) (by omega); omega
    unfold lex; omega
  intro x y a1 a2 a3
  by_cases c1 : y < j
  · exact h3 x y a1 a2 c1
  · by_cases c2 : y = j
    · rw [c2]; exact hj x a1 (by omega)
    · by_cases c3 : x < j
      · exact h4 x y a1 c3 (by omega) (by omega)
      · by_cases c4 : x = j
        · rw [c4]; exact .inl (h6 y (by omega) (by omega))
        · exact h5 x y (by omega) a2 (by omega)

-- rotation
theorem swR_zero (f : Nat → Nat) (a b : Nat) : swR f a b 0 = f := by funext x; unfold swR; rw [if_neg (by omega), if_neg (by omega)]
theorem swR_succ (f : Nat → Nat) (a b n : Nat) (h : a + n < b) : swR f a b (n + 1) = swp (swR f a b n) (a + n) (b + n) := by
  funext x
  unfold swp swR
  by_cases c1 : x = a + n
  · rw [if_pos c1, if_pos (by omega), if_neg (by omega), if_neg (by omega)]; congr 1; omega
  · rw [if_neg c1]
    by_cases c2 : x = b + n
    · rw [if_pos c2, if_neg (by omega), if_pos (by omega), if_neg (by omega), if_neg (by omega)]; congr 1; omega
    · rw [if_neg c2]
      by_cases c3 : a ≤ x ∧ x < a + n
      · rw [if_pos c3, if_pos (by omega)]
      · rw [if_neg c3, if_neg (by omega)]
        by_cases c4 : b ≤ x ∧ x < b + n
        · rw [if_pos c4, if_pos (by omega)]
        · rw [if_neg c4, if_neg (by omega)]
theorem rot_gt (f : Nat → Nat) (m i j : Nat) (hm : i ≤ m) (hij : j < i) (_hj : 0 < j) : rot f (m - i) m (m + j) = rot (swR f (m - i) m j) (m - (i - j)) m (m + j) := by
  funext x
  unfold rot swR
  by_cases c1 : m - i ≤ x ∧ x < m - i + (m + j - m)
  · rw [if_pos c1, if_neg (by omega), if_neg (by omega), if_pos (by omega)]; congr 1; omega
  · rw [if_neg c1]
    by_cases c2 : m - i + (m + j - m) ≤ x ∧ x < m + j
    · rw [if_pos c2]
      by_cases c3 : m - (i - j) ≤ x ∧ x < m - (i - j) + (m + j - m)
      · rw [if_pos c3]
        by_cases c4 : x + (m - (m - (i - j))) < m
        · omega
        · rw [if_neg (by omega), if_pos (by omega)]; congr 1; omega
      · rw [if_neg c3, if_pos (by omega), if_neg (by omega), if_neg (by omega)]
    · rw [if_neg c2, if_neg (by omega), if_neg (by omega), if_neg (by omega), if_neg (by omega)]
theorem rot_lt (f : Nat → Nat) (m i j : Nat) (hm : i ≤ m) (hij : i < j) (_hi : 0 < i) : rot f (m - i) m (m + j) = rot (swR f (m - i) (m + j - i) i) (m - i) m (m + (j - i)) := by
  funext x
  unfold rot swR
  by_cases c1 : m - i ≤ x ∧ x < m - i + (m + j - m)
  · rw [if_pos c1]
    by_cases c3 : x < m - i + (m + (j - i) - m)
    · rw [if_pos (by omega)]
      by_cases c4 : x + (m - (m - i)) < m + j - i
      · rw [if_neg (by omega), if_neg (by omega)]
      · omega
    · rw [if_neg (by omega)]
      by_cases c5 : x < m + (j - i)
      · rw [if_pos (by omega), if_pos (by omega)]; congr 1; omega
      · omega
  · rw [if_neg c1]
    by_cases c2 : m - i + (m + j - m) ≤ x ∧ x < m + j
    · rw [if_pos c2, if_neg (by omega), if_neg (by omega), if_neg (by omega), if_pos (by omega)]; congr 1; omega
    · rw [if_neg c2, if_neg (by omega), if_neg (by omega), if_neg (by omega), if_neg (by omega)]
theorem rot_eq (f : Nat → Nat) (m i : Nat) (hm : i ≤ m) : rot f (m - i) m (m + i) = swR f (m - i) m i := by
  funext x
  unfold rot swR
  by_cases c1 : m - i ≤ x ∧ x < m - i + i
  · rw [if_pos (by omega), if_pos c1]; congr 1; omega
  · rw [if_neg (by omega), if_neg c1]
    by_cases c2 : m ≤ x ∧ x < m + i
    · rw [if_pos (by omega), if_pos c2]; congr 1; omega
    · rw [if_neg (by omega), if_neg c2]

-- the loops that move one value
theorem rot_up_zero (f : Nat → Nat) (a : Nat) : rot f a (a + 1) (a + 1) = f := by funext x; unfold rot; rw [if_neg (by omega)]; by_cases c : a + (a + 1 - (a + 1)) ≤ x ∧ x < a + 1; (rw [if_pos c]; congr 1; omega); rw [if_neg c]
theorem rot_up_succ (f : Nat → Nat) (a k : Nat) (h : a ≤ k) : rot f a (a + 1) (k + 2) = swp (rot f a (a + 1) (k + 1)) k (k + 1) := by
  funext x
  unfold swp rot
  by_cases c1 : x = k
  · rw [if_pos c1, if_pos (by omega), if_neg (by omega), if_neg (by omega)]; congr 1; omega
  · rw [if_neg c1]
    by_cases c2 : x = k + 1
    · rw [if_pos c2, if_neg (by omega), if_pos (by omega), if_neg (by omega), if_pos (by omega)]; congr 1; omega
    · rw [if_neg c2]
      by_cases c3 : a ≤ x ∧ x < k
      · rw [if_pos (by omega), if_pos (by omega)]
      · rw [if_neg (by omega), if_neg (by omega), if_neg (by omega), if_neg (by omega)]
theorem rot_dn_zero (f : Nat → Nat) (m : Nat) : rot f m m (m + 1) = f := by
  funext x; unfold rot
  by_cases c : m ≤ x ∧ x < m + (m + 1 - m)
  · rw [if_pos c]; congr 1; omega
  · rw [if_neg c, if_neg (by omega)]
theorem rot_dn_succ (f : Nat → Nat) (m k : Nat) (h : k < m) : rot f k m (m + 1) = swp (rot f (k + 1) m (m + 1)) (k + 1) k := by
  funext x
  unfold swp rot
  by_cases c1 : x = k + 1
  · rw [if_pos c1, if_neg (by omega), if_pos (by omega), if_neg (by omega), if_neg (by omega)]; congr 1; omega
  · rw [if_neg c1]
    by_cases c2 : x = k
    · rw [if_pos c2, if_pos (by omega), if_pos (by omega)]; congr 1; omega
    · rw [if_neg c2]
      by_cases c3 : k + 2 ≤ x ∧ x < m + 1
      · rw [if_neg (by omega), if_pos (by omega), if_neg (by omega), if_pos (by omega)]
      · rw [if_neg (by omega), if_neg (by omega), if_neg (by omega), if_neg (by omega)]

theorem rot_id_left (f : Nat → Nat) (m b : Nat) : rot f m m b = f := by
  funext x; unfold rot
  by_cases c : m ≤ x ∧ x < m + (b - m)
  · rw [if_pos c]; congr 1; omega
  · rw [if_neg c, if_neg (by omega)]
theorem rot_id_right (f : Nat → Nat) (a m : Nat) : rot f a m m = f := by
  funext x; unfold rot
  rw [if_neg (by omega)]
  by_cases c : a + (m - m) ≤ x ∧ x < m
  · rw [if_pos c]; congr 1; omega
  · rw [if_neg c]

theorem merge_left {K : Nat → Int} {f : Nat → Nat} {a b i : Nat} (hs : Srt K f (a + 1) b) (hp : Apart f a (a + 1) b) (h1 : a + 1 ≤ i) (h2 : i ≤ b)
    (hl : i = a + 1 ∨ K (f (i - 1)) < K (f a)) (hr : i = b ∨ K (f a) ≤ K (f i)) : Srt K (rot f a (a + 1) i) a b := by
  have e1 : ∀ x, a ≤ x → x < i - 1 → rot f a (a + 1) i x = f (x + 1) := fun x c1 c2 => by unfold rot; rw [if_pos (by omega)]; congr 1; omega
  have e2 : rot f a (a + 1) i (i - 1) = f a := by unfold rot; rw [if_neg (by omega), if_pos (by omega)]; congr 1; omega
  have e3 : ∀ x, i ≤ x → rot f a (a + 1) i x = f x := fun x c1 => by unfold rot; rw [if_neg (by omega), if_neg (by omega)]
  have l1 : ∀ x, a + 1 ≤ x → x < i → K (f x) < K (f a) := fun x c1 c2 => by
    have := hs.le c1 (show x ≤ i - 1 by omega) (by omega); omega
  have l2 : ∀ x, i ≤ x → x < b → lex K (f a) (f x) := fun x c1 c2 => by
    have h3 := hs.le h1 c1 c2
    have h4 := hp a x (Nat.le_refl _) (by omega) (by omega) c2
    unfold lex; omega
  intro x y a1 a2 a3
  by_cases c1 : y < i - 1
  · rw [e1 x a1 (by omega), e1 y (by omega) c1]; exact hs _ _ (by omega) (by omega) (by omega)
  · by_cases c2 : y = i - 1
    · rw [c2, e2, e1 x a1 (by omega)]; exact .inl (l1 _ (by omega) (by omega))
    · rw [e3 y (by omega)]
      by_cases c3 : x < i - 1
      · rw [e1 x a1 c3]; exact hs _ _ (by omega) (by omega) a3
      · by_cases c4 : x = i - 1
        · rw [c4, e2]; exact l2 y (by omega) a3
        · rw [e3 x (by omega)]; exact hs _ _ (by omega) a2 a3

theorem merge_right {K : Nat → Int} {f : Nat → Nat} {a m i : Nat} (hs : Srt K f a m) (hp : Apart f a m (m + 1)) (h1 : a ≤ i) (h2 : i ≤ m)
    (hl : i = a ∨ K (f (i - 1)) ≤ K (f m)) (hr : i = m ∨ K (f m) < K (f i)) : Srt K (rot f i m (m + 1)) a (m + 1) := by
  have e1 : ∀ x, x < i → rot f i m (m + 1) x = f x := fun x c1 => by unfold rot; rw [if_neg (by omega), if_neg (by omega)]
  have e2 : rot f i m (m + 1) i = f m := by unfold rot; rw [if_pos (by omega)]; congr 1; omega
  have e3 : ∀ x, i < x → x < m + 1 → rot f i m (m + 1) x = f (x - 1) := fun x c1 c2 => by unfold rot; rw [if_neg (by omega), if_pos (by omega)]; congr 1; omega
  have l1 : ∀ x, a ≤ x → x < i → lex K (f x) (f m) := fun x c1 c2 => by
    have h3 := hs.le c1 (show x ≤ i - 1 by omega) (by omega)
    have h4 := hp x m c1 (by omega) (Nat.le_refl _) (by omega)
    unfold lex; omega
  have l2 : ∀ x, i ≤ x → x < m → K (f m) < K (f x) := fun x c1 c2 => by
    have h3 := hs.le h1 c1 c2; omega
  intro x y a1 a2 a3
  by_cases c1 : y < i
  · rw [e1 x (by omega), e1 y c1]; exact hs _ _ a1 a2 (by omega)
  · by_cases c2 : y = i
    · rw [c2, e2, e1 x (by omega)]; exact l1 x a1 (by omega)
    · rw [e3 y (by omega) a3]
      by_cases c3 : x < i
      · rw [e1 x c3]; exact hs _ _ a1 (by omega) (by omega)
      · by_cases c4 : x = i
        · rw [c4, e2]; exact .inl (l2 _ (by omega) (by omega))
        · rw [e3 x (by omega) (by omega)]; exact hs _ _ (by omega) (by omega) (by omega)

structure Mid (K : Nat → Int) (g : Nat → Nat) (a start mid end_ b : Nat) : Prop where
  s1 : Srt K g a start
  s2 : Srt K g start mid
  p1 : Apart g a start mid
  s3 : Srt K g mid end_
  s4 : Srt K g end_ b
  p2 : Apart g mid end_ b
  cross : ∀ x y, a ≤ x → x < mid → mid ≤ y → y < b → lex K (g x) (g y)

theorem merge_mid {K : Nat → Int} {f : Nat → Nat} {a m b start mid end_ : Nat} (hl : Srt K f a m) (hr : Srt K f m b) (hp : Apart f a m b) (h1 : a ≤ start) (h2 : start ≤ m) (h3 : m ≤ end_) (h4 : end_ ≤ b) (h5 : mid + m = start + end_)
    (c1 : start = a ∨ end_ = b ∨ K (f (start - 1)) ≤ K (f end_)) (c2 : start = m ∨ m = end_ ∨ K (f (end_ - 1)) < K (f start)) : Mid K (rot f start m end_) a start mid end_ b := by
  have e1 : ∀ x, x < start → rot f start m end_ x = f x := fun x c => by unfold rot; rw [if_neg (by omega), if_neg (by omega)]
  have e2 : ∀ x, start ≤ x → x < mid → rot f start m end_ x = f (x + (m - start)) := fun x c d => by unfold rot; rw [if_pos (by omega)]
  have e3 : ∀ x, mid ≤ x → x < end_ → rot f start m end_ x = f (x - (end_ - m)) := fun x c d => by unfold rot; rw [if_neg (by omega), if_pos (by omega)]
  have e4 : ∀ x, end_ ≤ x → rot f start m end_ x = f x := fun x c => by unfold rot; rw [if_neg (by omega), if_neg (by omega)]
  have A : ∀ x y, a ≤ x → x < start → end_ ≤ y → y < b → lex K (f x) (f y) := fun x y a1 a2 a3 a4 => by
    have q1 := hl.le a1 (show x ≤ start - 1 by omega) (by omega)
    have q2 := hr.le h3 a3 a4
    have q3 := hp x y a1 (by omega) (by omega) a4
    unfold lex; omega
  have B : ∀ x y, m ≤ x → x < end_ → start ≤ y → y < m → lex K (f x) (f y) := fun x y a1 a2 a3 a4 => by
    have q1 := hr.le a1 (show x ≤ end_ - 1 by omega) (by omega)
    have q2 := hl.le h1 a3 a4
    unfold lex; omega
  refine ⟨?_, ?_, ?_, ?_, ?_, ?_, ?_⟩
  · exact (hl.sub (Nat.le_refl _) h2).congr fun x _ c => e1 x c
  · intro x y a1 a2 a3
    rw [e2 x a1 (by omega), e2 y (by omega) a3]; exact hr _ _ (by omega) (by omega) (by omega)
  · intro x y a1 a2 a3 a4
    rw [e1 x a2, e2 y a3 a4]; exact hp _ _ a1 (by omega) (by omega) (by omega)
  · intro x y a1 a2 a3
    rw [e3 x a1 (by omega), e3 y (by omega) a3]; exact hl _ _ (by omega) (by omega) (by omega)
  · exact (hr.sub h3 (Nat.le_refl _)).congr fun x c _ => e4 x c
  · intro x y a1 a2 a3 a4
    rw [e3 x a1 a2, e4 y a3]; exact hp _ _ (by omega) (by omega) (by omega) a4
  · intro x y a1 a2 a3 a4
    by_cases d1 : x < start
    · rw [e1 x d1]
      by_cases d2 : y < end_
      · rw [e3 y a3 d2]; exact hl _ _ a1 (by omega) (by omega)
      · rw [e4 y (by omega)]; exact A x y a1 d1 (by omega) a4
    · rw [e2 x (by omega) a2]
      by_cases d2 : y < end_
      · rw [e3 y a3 d2]; exact B _ _ (by omega) (by omega) (by omega) (by omega)
      · rw [e4 y (by omega)]; exact hr _ _ (by omega) (by omega) a4

theorem merge_join {K : Nat → Int} {g g1 g2 : Nat → Nat} {a mid b : Nat} (ha : a ≤ mid) (hb : mid ≤ b) (hc : ∀ x y, a ≤ x → x < mid → mid ≤ y → y < b → lex K (g x) (g y))
    (p1 : Prm g g1 a mid) (s1 : Srt K g1 a mid) (p2 : Prm g1 g2 mid b) (s2 : Srt K g2 mid b) : Srt K g2 a b ∧ Prm g g2 a b := by
  refine ⟨fun x y a1 a2 a3 => ?_, (p1.mono (Nat.le_refl _) hb).trans (p2.mono ha (Nat.le_refl _))⟩
  by_cases c1 : y < mid
  · rw [p2.out (.inl (by omega)), p2.out (.inl c1)]; exact s1 x y a1 a2 c1
  · by_cases c2 : x < mid
    · rw [p2.out (.inl c2)]
      obtain ⟨i, i1, i2, ei⟩ := p1.2.1 x a1 c2
      obtain ⟨j, j1, j2, ej⟩ := p2.2.1 y (by omega) a3
      rw [ei, ej, p1.out (.inr j1)]
      exact hc i j i1 i2 j1 j2
    · exact s2 x y (by omega) a2 a3
theorem Srt.join {K : Nat → Int} {f : Nat → Nat} {a m b : Nat} (h1 : Srt K f a m) (h2 : a = m) (h3 : Srt K f m b) : Srt K f a b := by subst h2; exact h3

end Go.Proofs.Ytdacfcfgikllpaa
