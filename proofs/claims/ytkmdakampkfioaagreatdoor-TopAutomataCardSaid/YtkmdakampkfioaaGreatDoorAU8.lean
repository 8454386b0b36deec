/- Plain words: automata, and what they tell of rows of glyphs. -/
namespace Go.Proofs.YtkmdakampkfioaaGreatDoor
structure Au where
 cls : List Int
 fore : List (List Int)
 back : List (List Int)
 fe : List Nat
 be : List Nat
 deriving Inhabited
def stepA (cls : List Int) (rows : List (List Int)) (s g : Int) : Int :=
 if s < 0 ∨ (rows.length : Int) ≤ s ∨ g < 0 ∨ (cls.length : Int) ≤ g then -1
 else
  let row := rows.getD s.toNat [];let c := cls.getD g.toNat 0
  if c < 0 ∨ (row.length : Int) ≤ c then -1
  else
   let n := row.getD c.toNat 0
   if 0 ≤ n ∧ n < (rows.length : Int) then n else -1
def bitsA (ends : List Nat) (s : Int) : Nat := if s < 0 then 0 else (ends[s.toNat]?).getD 0
def readA (cls : List Int) (rows : List (List Int)) (ends : List Nat) : Int → Nat → List Int → Nat
 | _, acc, [] => acc
 | s, acc, g :: gs =>
  if stepA cls rows s g < 0 then acc
  else readA cls rows ends (stepA cls rows s g) (acc ||| bitsA ends (stepA cls rows s g)) gs
def foreA (a : Au) (l : List Int) : Nat := readA a.cls a.fore a.fe 0 (bitsA a.fe 0) l
def backA (a : Au) (l : List Int) : Nat := readA a.cls a.back a.be 0 (bitsA a.be 0) l
def leastA (n : Nat) : Option Nat := (List.range 64).find? fun i => n.testBit i
section
variable {cls : List Int} {rows : List (List Int)} {ends : List Nat}
theorem stepA_lt (s g : Int) : stepA cls rows s g < (rows.length : Int) := by
 unfold stepA;split
 ·omega
 ·dsimp only;split
  ·omega
  ·split
   ·rename_i h; exact h.2
   ·omega
theorem read_acc : ∀ (l : List Int) (s : Int) (acc : Nat), acc &&& readA cls rows ends s acc l = acc
 | [], s, acc => by simp [readA]
 | g :: gs, s, acc => by
  rw [readA];split
  ·simp
  ·have h := read_acc gs (stepA cls rows s g) (acc ||| bitsA ends (stepA cls rows s g));apply Nat.eq_of_testBit_eq;intro i;have hi := congrArg (fun n => n.testBit i) h;simp only [Nat.testBit_and, Nat.testBit_or] at hi ⊢;cases h1 : acc.testBit i with
   | false => simp
   | true => rw [h1] at hi; simp at hi; simp [hi]
end
theorem leastA_some {n i : Nat} (h : leastA n = some i) : i < 64 ∧ n.testBit i = true ∧ ∀ j < i, n.testBit j = false := by
 unfold leastA at h;rw [List.find?_range_eq_some] at h;exact ⟨by simpa using h.2.1, h.1, fun j hj => by simpa using h.2.2 j hj⟩
theorem leastA_none {n : Nat} (h : leastA n = none) (hn : n < 2 ^ 64) : n = 0 := by
 unfold leastA at h;rw [List.find?_eq_none] at h;apply Nat.eq_of_testBit_eq;intro i;rw [Nat.zero_testBit];by_cases hi : i < 64
 ·simpa using h i (by simpa using hi)
 ·exact Nat.testBit_lt_two_pow (Nat.lt_of_lt_of_le hn (Nat.pow_le_pow_right (by omega) (by omega)))
def bitsOf (p : Nat → Bool) : Nat → Nat
 | 0 => 0
 | n + 1 => if p n then bitsOf p n ||| 2 ^ n else bitsOf p n
theorem bitsOf_bit (p : Nat → Bool) : ∀ (n i : Nat), (bitsOf p n).testBit i = (decide (i < n) && p i)
 | 0, i => by simp [bitsOf]
 | n + 1, i => by
  rw [bitsOf];by_cases hp : p n = true
  ·rw [if_pos hp, Nat.testBit_or, bitsOf_bit p n i, Nat.testBit_two_pow];by_cases hi : n = i
   ·subst hi; simp [hp]
   ·by_cases h : i < n
    ·simp [h, show i < n + 1 by omega];exact fun e => absurd e hi
    ·simp [h, hi, show ¬ i < n + 1 by omega]
  ·rw [if_neg hp, bitsOf_bit p n i];by_cases hi : n = i
   ·subst hi; simp [hp]
   ·by_cases h : i < n
    ·simp [h, show i < n + 1 by omega]
    ·simp [h, show ¬ i < n + 1 by omega]
theorem bitsOf_lt (p : Nat → Bool) : ∀ n, bitsOf p n < 2 ^ n
 | 0 => by simp [bitsOf]
 | n + 1 => by
  have h := bitsOf_lt p n;rw [bitsOf];split
  ·refine Nat.or_lt_two_pow (Nat.lt_of_lt_of_le h (Nat.pow_le_pow_right (by omega) (by omega))) ?_;exact Nat.pow_lt_pow_right (by omega) (by omega)
  ·exact Nat.lt_of_lt_of_le h (Nat.pow_le_pow_right (by omega) (by omega))
def isCls (cls : List Int) (g : Int) (c : Int) : Bool := decide (0 ≤ g) && decide (g < (cls.length : Int)) && (cls.getD g.toNat 0 == c)
def nextM (rows : List (List (List Int))) (cls : List Int) (met : Nat) (c : Int) : Nat := bitsOf (fun n => decide (met < (rows.getD n []).length) && ((rows.getD n []).getD met []).any fun g => isCls cls g c) rows.length
def endsM (rows : List (List (List Int))) (met : Nat) : Nat := bitsOf (fun n => (rows.getD n []).length == met) rows.length
def behindP (rows : List (List (List Int))) (cls : List Int) (p : Nat × Nat) (c : Int) : Nat × Nat :=
 if p.2 &&& nextM rows cls p.1 c = 0 then (0, 0) else (p.1 + 1, p.2 &&& nextM rows cls p.1 c)
def endsP (rows : List (List (List Int))) (p : Nat × Nat) : Nat := p.2 &&& endsM rows p.1
def ClsOK (rows : List (List (List Int))) (cls : List Int) : Prop := ∀ (g g' c : Int), isCls cls g c = true → isCls cls g' c = true → ∀ row ∈ rows, ∀ s ∈ row, s.contains g = s.contains g'
theorem any_cls {rows : List (List (List Int))} {cls : List Int} {g c : Int} (h : ClsOK rows cls) (hg : isCls cls g c = true) {row : List (List Int)} (hr : row ∈ rows) {s : List Int} (hs : s ∈ row) : (s.any fun g' => isCls cls g' c) = s.contains g := by
 rw [Bool.eq_iff_iff];constructor
 ·intro ha;obtain ⟨g', h1, h2⟩ := List.any_eq_true.1 ha;rw [h g g' c hg h2 row hr s hs];simpa using h1
 ·intro hc;exact List.any_eq_true.2 ⟨g, by simpa using hc, hg⟩
section
variable {α : Type}
def RowSays (nx : α → Nat → Option α) (src : α) (met : List α) (row : List Int) : Prop :=
 ∀ c, c < row.length → (nx src c = none ∧ row[c]? = some (-1)) ∨ ∃ (q : α) (j : Nat), nx src c = some q ∧ met[j]? = some q ∧ row[c]? = some (j : Int)
theorem RowSays.more {nx : α → Nat → Option α} {src : α} {met : List α} {row : List Int} (h : RowSays nx src met row) (t : List α) : RowSays nx src (met ++ t) row := fun c hc => by
 rcases h c hc with h | ⟨q, j, h1, h2, h3⟩
 ·exact .inl h
 ·exact .inr ⟨q, j, h1, by rw [List.getElem?_append_left (List.getElem?_eq_some_iff.1 h2).1]; exact h2, h3⟩
theorem RowSays.snoc {nx : α → Nat → Option α} {src : α} {met : List α} {row : List Int} (h : RowSays nx src met row) {x : Int} (hx : (nx src row.length = none ∧ x = -1) ∨ ∃ (q : α) (j : Nat), nx src row.length = some q ∧ met[j]? = some q ∧ x = (j : Int)) : RowSays nx src met (row ++ [x]) := fun c hc => by
 by_cases e : c = row.length
 ·subst e;rcases hx with ⟨h1, rfl⟩ | ⟨q, j, h1, h2, rfl⟩
  ·exact .inl ⟨h1, by simp⟩
  ·exact .inr ⟨q, j, h1, h2, by simp⟩
 ·have hl : c < row.length := by simp at hc; omega
  rw [List.getElem?_append_left hl];exact h c hl
structure StOK (nx : α → Nat → Option α) (K : Nat) (p0 : α) (n : Nat) (met : List α) (tab : List (List Int)) : Prop where
 nd : met.Nodup
 h0 : met[0]? = some p0
 len : tab.length = n
 le : n ≤ met.length
 mx : met.length ≤ 20000
 all : ∀ (i : Nat) (src : α) (row : List Int), met[i]? = some src → tab[i]? = some row → row.length = K ∧ RowSays nx src met row
 come : ∀ q ∈ met, q = p0 ∨ ∃ p ∈ met, ∃ k, k < K ∧ nx p k = some q
theorem StOK.start (nx : α → Nat → Option α) (K : Nat) (p0 : α) : StOK nx K p0 0 [p0] [] :=
 ⟨by simp, rfl, rfl, by simp, by simp, (fun i src row _ h => by simp at h), fun q h => .inl (by simpa using h)⟩
end
section
variable {α : Type} [DecidableEq α]
def meetL (met : List α) (p : α) : Nat × List α :=
 match met.idxOf? p with
 | some i => (i, met)
 | none => (met.length, met ++ [p])
theorem meetL_spec {met : List α} (p : α) (hn : met.Nodup) : ∃ t, (meetL met p).2 = met ++ t ∧ (meetL met p).2.Nodup ∧ (meetL met p).2[(meetL met p).1]? = some p ∧ (∀ q ∈ t, q = p) ∧ t.length ≤ 1 := by
 unfold meetL;cases h : met.idxOf? p with
 | some i =>
  rw [List.idxOf?, List.findIdx?_eq_some_iff_getElem] at h;obtain ⟨h1, h2, _⟩ := h;refine ⟨[], by simp, hn, ?_, (by simp), by simp⟩;rw [List.getElem?_eq_getElem h1];simpa using h2
 | none =>
  rw [List.idxOf?_eq_none_iff] at h;refine ⟨[p], rfl, ?_, by simp, (by simp), by simp⟩;rw [List.nodup_append];refine ⟨hn, by simp, ?_⟩;intro a ha b hb;simp at hb; subst hb;exact fun e => h (e ▸ ha)
def rowL (nx : α → Nat → Option α) (src : α) (met : List α) : Nat → List Int × List α
 | 0 => ([], met)
 | c + 1 =>
  match nx src c with
  | none => ((rowL nx src met c).1 ++ [-1], (rowL nx src met c).2)
  | some q => ((rowL nx src met c).1 ++ [((meetL (rowL nx src met c).2 q).1 : Int)], (meetL (rowL nx src met c).2 q).2)
theorem rowL_spec (nx : α → Nat → Option α) (src : α) (met : List α) (hn : met.Nodup) : ∀ c, ∃ t, (rowL nx src met c).2 = met ++ t ∧ (rowL nx src met c).2.Nodup ∧ (rowL nx src met c).1.length = c ∧ t.length ≤ c ∧ (∀ q ∈ t, ∃ k, k < c ∧ nx src k = some q) ∧ RowSays nx src (rowL nx src met c).2 (rowL nx src met c).1
 | 0 => ⟨[], by simp [rowL], hn, rfl, by simp, (by simp), fun c hc => by simp [rowL] at hc⟩
 | c + 1 => by
  obtain ⟨t, h1, h2, h3, h4, h5, h6⟩ := rowL_spec nx src met hn c;rw [rowL];cases hq : nx src c with
  | none =>
   refine ⟨t, h1, h2, by simp [h3], by omega, fun q hqm => ?_, h6.snoc (.inl ⟨by rw [h3]; exact hq, rfl⟩)⟩;obtain ⟨k, hk, e⟩ := h5 q hqm;exact ⟨k, by omega, e⟩
  | some q =>
   obtain ⟨u, g1, g2, g3, g4, g5⟩ := meetL_spec (met := (rowL nx src met c).2) q h2;refine ⟨t ++ u, ?_, g2, by simp [h3], by simp; omega, fun x hx => ?_, ?_⟩
   ·show (meetL (rowL nx src met c).2 q).2 = _
    rw [g1, h1, List.append_assoc]
   ·rcases List.mem_append.1 hx with hx | hx
    ·obtain ⟨k, hk, e⟩ := h5 x hx;exact ⟨k, by omega, e⟩
    ·exact ⟨c, by omega, by rw [g4 x hx]; exact hq⟩
   ·have h7 := h6.more u;rw [← g1] at h7;exact h7.snoc (.inr ⟨q, _, by rw [h3]; exact hq, g3, rfl⟩)
def statesL (nx : α → Nat → Option α) (K : Nat) : Nat → Nat → List α → List (List Int) → Option (List (List Int) × List α)
 | 0, _, _, _ => none
 | f + 1, n, met, tab =>
  match met[n]? with
  | none => some (tab, met)
  | some src => if 20000 < (rowL nx src met K).2.length then none else statesL nx K f (n + 1) (rowL nx src met K).2 (tab ++ [(rowL nx src met K).1])
def allL (nx : α → Nat → Option α) (K : Nat) (p0 : α) : Option (List (List Int) × List α) := statesL nx K 20002 0 [p0] []
theorem StOK.next {nx : α → Nat → Option α} {K n : Nat} {p0 : α} {met : List α} {tab : List (List Int)} (h : StOK nx K p0 n met tab) {src : α} (hs : met[n]? = some src) (hl : (rowL nx src met K).2.length ≤ 20000) :
  StOK nx K p0 (n + 1) (rowL nx src met K).2 (tab ++ [(rowL nx src met K).1]) := by
 obtain ⟨t, h1, h2, h3, h4, h5, h6⟩ := rowL_spec nx src met h.nd K;have hlt := (List.getElem?_eq_some_iff.1 hs).1;have up : ∀ (i : Nat) (p : α), met[i]? = some p → (rowL nx src met K).2[i]? = some p := fun i p hp => by
  rw [h1, List.getElem?_append_left (List.getElem?_eq_some_iff.1 hp).1]; exact hp
 refine ⟨h2, up 0 p0 h.h0, by simp [h.len], by rw [h1]; simp; omega, hl, fun i p row hp hr => ?_, fun q hq => ?_⟩
 ·by_cases e : i < n
  ·rw [List.getElem?_append_left (by rw [h.len]; exact e)] at hr;have hi : met[i]? = some p := by
    rw [h1, List.getElem?_append_left (by omega)] at hp; exact hp
   obtain ⟨g1, g2⟩ := h.all i p row hi hr;exact ⟨g1, by rw [h1]; exact g2.more t⟩
  ·have e2 : i = n := by
    have := (List.getElem?_eq_some_iff.1 hr).1;simp [h.len] at this; omega
   subst e2;rw [up i src hs] at hp; injection hp with hp; subst hp;rw [List.getElem?_append_right (by rw [h.len]; exact Nat.le_refl _), h.len, Nat.sub_self] at hr;simp at hr; subst hr;exact ⟨h3, h6⟩
 ·have hm : ∀ x ∈ met, x ∈ (rowL nx src met K).2 := fun x hx => by rw [h1]; exact List.mem_append_left _ hx
  rw [h1] at hq;rcases List.mem_append.1 hq with hq | hq
  ·rcases h.come q hq with h7 | ⟨p, hp, k, hk, e⟩
   ·exact .inl h7
   ·exact .inr ⟨p, hm p hp, k, hk, e⟩
  ·obtain ⟨k, hk, e⟩ := h5 q hq;exact .inr ⟨src, hm src (List.mem_of_getElem? hs), k, hk, e⟩
theorem statesL_ok {nx : α → Nat → Option α} {K : Nat} {p0 : α} : ∀ (f n : Nat) (met : List α) (tab : List (List Int)), StOK nx K p0 n met tab → ∀ r, statesL nx K f n met tab = some r → StOK nx K p0 r.2.length r.2 r.1
 | 0, _, _, _, _, r, hr => by simp [statesL] at hr
 | f + 1, n, met, tab, h, r, hr => by
  rw [statesL] at hr;cases hs : met[n]? with
  | none =>
   rw [hs] at hr;injection hr with hr; subst hr;have : n = met.length := by
    have := List.getElem?_eq_none_iff.1 hs;have := h.le;omega
   subst this;exact h
  | some src =>
   rw [hs] at hr;dsimp only at hr;split at hr
   ·cases hr
   ·rename_i hl;exact statesL_ok f (n + 1) _ _ (h.next hs (by omega)) r hr
theorem allL_ok {nx : α → Nat → Option α} {K : Nat} {p0 : α} {r : List (List Int) × List α} (h : allL nx K p0 = some r) : StOK nx K p0 r.2.length r.2 r.1 := statesL_ok _ _ _ _ (StOK.start nx K p0) r h
end
section
variable {α β : Type} [DecidableEq α] [DecidableEq β] {φ : α → β} {I : α → Prop} {nx : α → Nat → Option α} {nx' : β → Nat → Option β} {K : Nat}
theorem idxOf_map (hinj : ∀ a b, I a → I b → φ a = φ b → a = b) {met : List α} {p : α} (hm : ∀ q ∈ met, I q) (hp : I p) : (met.map φ).idxOf? (φ p) = met.idxOf? p := by
 induction met with
 | nil => rfl
 | cons a t ih =>
  have ha := hm a (List.mem_cons_self ..);rw [List.map_cons, List.idxOf?_cons, List.idxOf?_cons, ih (fun q hq => hm q (List.mem_cons_of_mem _ hq))];by_cases e : a = p
  ·subst e; simp
  ·have e2 : φ a ≠ φ p := fun h => e (hinj a p ha hp h);simp [e, e2]
theorem meetL_inv {met : List α} {p : α} (hm : ∀ q ∈ met, I q) (hp : I p) : ∀ q ∈ (meetL met p).2, I q := by
 unfold meetL;cases met.idxOf? p with
 | some i => exact hm
 | none =>
  intro q hq;rcases List.mem_append.1 hq with hq | hq
  ·exact hm q hq
  ·simp at hq; subst hq; exact hp
end
def runB {σ : Type} (step : σ → Int → σ) (out : σ → Nat) : σ → List Int → Nat
 | s, [] => out s
 | s, g :: gs => out s ||| runB step out (step s g) gs
theorem runB_zero {σ : Type} {step : σ → Int → σ} {out : σ → Nat} {s : σ} (h0 : out s = 0) (h1 : ∀ g, step s g = s) : ∀ w, runB step out s w = 0
 | [] => h0
 | g :: w => by rw [runB, h0, h1 g, runB_zero h0 h1 w]; rfl
theorem runB_hom {σ τ : Type} {st : σ → Int → σ} {st' : τ → Int → τ} {out : σ → Nat} {out' : τ → Nat} (φ : σ → τ) (h : ∀ s g, φ (st s g) = st' (φ s) g) (ho : ∀ s, out s = out' (φ s)) : ∀ (w : List Int) (s : σ), runB st out s w = runB st' out' (φ s) w
 | [], s => ho s
 | g :: w, s => by rw [runB, runB, ho s, runB_hom φ h ho w (st s g), h s g]
theorem runB_bit {σ : Type} {step : σ → Int → σ} {out : σ → Nat} {s : σ} {g : Int} {w : List Int} {b : Nat} (h : (out s).testBit b = false) : (runB step out s (g :: w)).testBit b = (runB step out (step s g) w).testBit b := by
 rw [runB, Nat.testBit_or, h, Bool.false_or]
section
variable {cls : List Int} {rows : List (List Int)} {ends : List Nat}
theorem stepA_neg {s g : Int} (h : stepA cls rows s g < 0) : stepA cls rows s g = -1 := by
 unfold stepA at h ⊢;split
 ·rfl
 ·rename_i h1;rw [if_neg h1] at h;dsimp only at h ⊢;split
  ·rfl
  ·rename_i h2;rw [if_neg h2] at h;split
   ·rename_i h3; rw [if_pos h3] at h; omega
   ·rfl
theorem stepA_ended (g : Int) : stepA cls rows (-1) g = -1 := by
 unfold stepA; rw [if_pos (by omega)]
theorem bitsA_ended : bitsA ends (-1) = 0 := by unfold bitsA; rw [if_pos (by omega)]
theorem readA_run : ∀ (l : List Int) (s : Int) (acc : Nat), readA cls rows ends s (acc ||| bitsA ends s) l = acc ||| runB (stepA cls rows) (bitsA ends) s l
 | [], s, acc => rfl
 | g :: l, s, acc => by
  rw [readA, runB];split
  ·rename_i h;rw [stepA_neg h, runB_zero bitsA_ended stepA_ended, Nat.or_zero]
  ·rw [readA_run l, Nat.or_assoc]
end
theorem foreA_run (a : Au) (l : List Int) : foreA a l = runB (stepA a.cls a.fore) (bitsA a.fe) 0 l := by
 have h := readA_run (cls := a.cls) (rows := a.fore) (ends := a.fe) l 0 0;rw [Nat.zero_or, Nat.zero_or] at h;exact h
theorem backA_run (a : Au) (l : List Int) : backA a l = runB (stepA a.cls a.back) (bitsA a.be) 0 l := by
 have h := readA_run (cls := a.cls) (rows := a.back) (ends := a.be) l 0 0;rw [Nat.zero_or, Nat.zero_or] at h;exact h
def clsAt (cls : List Int) (g : Int) : Int := cls.getD g.toNat 0
def stepP (rows : List (List (List Int))) (cls : List Int) (p : Nat × Nat) (g : Int) : Nat × Nat := behindP rows cls p (clsAt cls g)
def nxP (rows : List (List (List Int))) (cls : List Int) (p : Nat × Nat) (c : Nat) : Option (Nat × Nat) := if p.2 &&& nextM rows cls p.1 (c : Int) = 0 then none else some (p.1 + 1, p.2 &&& nextM rows cls p.1 (c : Int))
theorem behindP_nx (rows : List (List (List Int))) (cls : List Int) (p : Nat × Nat) (c : Nat) : behindP rows cls p (c : Int) = (nxP rows cls p c).getD (0, 0) := by
 unfold behindP nxP; split <;> rfl
theorem behindP_dead (rows : List (List (List Int))) (cls : List Int) (c : Int) (m : Nat) : behindP rows cls (m, 0) c = (0, 0) := by
 unfold behindP; simp
theorem endsP_dead (rows : List (List (List Int))) (m : Nat) : endsP rows (m, 0) = 0 := by unfold endsP; simp
theorem stepP_dead (rows : List (List (List Int))) (cls : List Int) (g : Int) : stepP rows cls (0, 0) g = (0, 0) := behindP_dead _ _ _ _
theorem nxP_some {rows : List (List (List Int))} {cls : List Int} {p q : Nat × Nat} {c : Nat} (h : nxP rows cls p c = some q) : q.1 = p.1 + 1 ∧ q.2 ≠ 0 ∧ q.2 = p.2 &&& nextM rows cls p.1 (c : Int) ∧ behindP rows cls p (c : Int) = q := by
 rw [behindP_nx, h];unfold nxP at h;split at h
 ·cases h
 ·rename_i hn; injection h with h; subst h; exact ⟨rfl, hn, rfl, rfl⟩
def GlyOK (cls : List Int) (K : Nat) : Prop := ∀ (i : Nat) (c : Int), cls[i]? = some c → 0 ≤ c ∧ c < (K : Int)
section
variable {rows : List (List (List Int))} {cls : List Int} {K : Nat} {p0 : Nat × Nat} {met : List (Nat × Nat)} {tab : List (List Int)} {n : Nat}
theorem cls_at (hG : GlyOK cls K) {g : Int} (h0 : 0 ≤ g) (h1 : g < (cls.length : Int)) : ∃ c : Nat, clsAt cls g = (c : Int) ∧ c < K ∧ isCls cls g (c : Int) = true := by
 obtain ⟨i, rfl⟩ : ∃ i : Nat, g = (i : Int) := ⟨g.toNat, by omega⟩;have hi : i < cls.length := by omega
 have e : cls[i]? = some (cls.getD i 0) := by rw [List.getD_eq_getElem?_getD, List.getElem?_eq_getElem hi]; rfl
 obtain ⟨a1, a2⟩ := hG i _ e;refine ⟨(cls.getD i 0).toNat, ?_, by omega, ?_⟩
 ·unfold clsAt; rw [Int.toNat_natCast]; omega
 ·unfold isCls; rw [Int.toNat_natCast, Int.toNat_of_nonneg a1]; simp [hi]
theorem built_step (hst : StOK (nxP rows cls) K p0 met.length met tab) (hG : GlyOK cls K) {g : Int} (h0 : 0 ≤ g) (h1 : g < (cls.length : Int)) {i : Nat} {p : Nat × Nat} (hp : met[i]? = some p) :
  (stepP rows cls p g = (0, 0) ∧ stepA cls tab (i : Int) g = -1) ∨ ∃ j : Nat, met[j]? = some (stepP rows cls p g) ∧ stepA cls tab (i : Int) g = (j : Int) := by
 obtain ⟨c, hc, hck, _⟩ := cls_at hG h0 h1;have hi := (List.getElem?_eq_some_iff.1 hp).1;have hlen := hst.len;have hit : i < tab.length := by omega
 obtain ⟨hrl, hrs⟩ := hst.all i p tab[i] hp (List.getElem?_eq_getElem hit);have hcc : cls.getD g.toNat 0 = (c : Int) := hc;have hrow : tab.getD ((i : Int)).toNat [] = tab[i] := by rw [Int.toNat_natCast, List.getD_eq_getElem?_getD, List.getElem?_eq_getElem hit]; rfl
 have hs : stepA cls tab (i : Int) g = if 0 ≤ (tab[i]).getD c 0 ∧ (tab[i]).getD c 0 < (tab.length : Int) then (tab[i]).getD c 0 else -1 := by
  unfold stepA;rw [if_neg (by omega)];dsimp only;rw [hrow, hcc, if_neg (by omega), Int.toNat_natCast]
 have hb : stepP rows cls p g = (nxP rows cls p c).getD (0, 0) := by unfold stepP; rw [hc, behindP_nx]
 rw [hs, hb];rcases hrs c (by omega) with ⟨e1, e2⟩ | ⟨q, j, e1, e2, e3⟩
 ·left;rw [e1, List.getD_eq_getElem?_getD, e2];exact ⟨rfl, by simp⟩
 ·right;have hj := (List.getElem?_eq_some_iff.1 e2).1;rw [e1, List.getD_eq_getElem?_getD, e3];refine ⟨j, e2, ?_⟩;rw [Option.getD_some, if_pos (by omega)]
theorem built_run (hst : StOK (nxP rows cls) K p0 met.length met tab) (hG : GlyOK cls K) : ∀ (w : List Int), (∀ g ∈ w, 0 ≤ g ∧ g < (cls.length : Int)) → ∀ (i : Nat) (p : Nat × Nat), met[i]? = some p →
  runB (stepA cls tab) (bitsA (met.map (endsP rows))) (i : Int) w = runB (stepP rows cls) (endsP rows) p w := by
 have hbit : ∀ (i : Nat) (p : Nat × Nat), met[i]? = some p → bitsA (met.map (endsP rows)) (i : Int) = endsP rows p := fun i p hp => by
  unfold bitsA; rw [if_neg (by omega), Int.toNat_natCast, List.getElem?_map, hp]; rfl
 intro w
 induction w with
 | nil => intro _ i p hp; exact hbit i p hp
 | cons g w ih =>
  intro hw i p hp;obtain ⟨h0, h1⟩ := hw g (List.mem_cons_self ..);rw [runB, runB, hbit i p hp];congr 1;rcases built_step hst hG h0 h1 hp with ⟨e1, e2⟩ | ⟨j, e1, e2⟩
  ·rw [e1, e2, runB_zero bitsA_ended stepA_ended, runB_zero (endsP_dead rows 0) (stepP_dead rows cls)]
  ·rw [e2]; exact ih (fun x hx => hw x (List.mem_cons_of_mem _ hx)) j _ e1
end
def beginsB : List (List Int) → List Int → Bool
 | [], _ => true
 | _ :: _, [] => false
 | s :: r, g :: w => s.contains g && beginsB r w
section
variable {rows : List (List (List Int))} {cls : List Int} {K : Nat}
theorem nextM_bit (hC : ClsOK rows cls) {g : Int} {c : Int} (hg : isCls cls g c = true) (m n : Nat) : (nextM rows cls m c).testBit n = (decide (n < rows.length) && (decide (m < (rows.getD n []).length) && ((rows.getD n []).getD m []).contains g)) := by
 unfold nextM;rw [bitsOf_bit];by_cases hn : n < rows.length
 ·simp only [hn, decide_true, Bool.true_and];by_cases hm : m < (rows.getD n []).length
  ·simp only [hm, decide_true, Bool.true_and];refine any_cls hC hg (row := rows.getD n []) ?_ ?_
   ·rw [List.getD_eq_getElem?_getD, List.getElem?_eq_getElem hn]; exact List.getElem_mem hn
   ·rw [List.getD_eq_getElem?_getD (l := rows.getD n []), List.getElem?_eq_getElem hm]; exact List.getElem_mem hm
  ·simp only [hm, decide_false, Bool.false_and]
 ·simp [hn]
theorem endsM_bit (m n : Nat) : (endsM rows m).testBit n = (decide (n < rows.length) && ((rows.getD n []).length == m)) := by
 unfold endsM; rw [bitsOf_bit]
theorem told_begins (hC : ClsOK rows cls) (hG : GlyOK cls K) : ∀ (w : List Int), (∀ g ∈ w, 0 ≤ g ∧ g < (cls.length : Int)) → ∀ (m mask n : Nat), (mask.testBit n = true → n < rows.length ∧ m ≤ (rows.getD n []).length) →
  (runB (stepP rows cls) (endsP rows) (m, mask) w).testBit n = (mask.testBit n && beginsB ((rows.getD n []).drop m) w) := by
 intro w
 induction w with
 | nil =>
  intro _ m mask n hm;rw [runB];unfold endsP;rw [Nat.testBit_and, endsM_bit];cases hb : mask.testBit n with
  | false => simp
  | true =>
   obtain ⟨h1, h2⟩ := hm hb;simp only [h1, decide_true, Bool.true_and];by_cases e : (rows.getD n []).length = m
   ·rw [List.drop_eq_nil_of_le (by omega), beginsB, e]; simp
   ·rw [List.drop_eq_getElem_cons (by omega), beginsB, beq_false_of_ne e]
 | cons g w ih =>
  intro hw m mask n hm;obtain ⟨h0, h1⟩ := hw g (List.mem_cons_self ..);obtain ⟨c, hc, hck, hcc⟩ := cls_at hG h0 h1;have hstep : stepP rows cls (m, mask) g = if mask &&& nextM rows cls m (c : Int) = 0 then (0, 0) else (m + 1, mask &&& nextM rows cls m (c : Int)) := by
   unfold stepP; rw [hc]; rfl
  rw [runB, Nat.testBit_or, hstep];have hnb := nextM_bit hC hcc m n;have hrest : (runB (stepP rows cls) (endsP rows) (if mask &&& nextM rows cls m (c : Int) = 0 then (0, 0) else (m + 1, mask &&& nextM rows cls m (c : Int))) w).testBit n = (mask.testBit n && ((nextM rows cls m (c : Int)).testBit n && beginsB ((rows.getD n []).drop (m + 1)) w)) := by
   split
   ·rename_i h;rw [runB_zero (endsP_dead rows 0) (stepP_dead rows cls), Nat.zero_testBit, ← Bool.and_assoc, ← Nat.testBit_and, h, Nat.zero_testBit, Bool.false_and]
   ·rw [ih (fun x hx => hw x (List.mem_cons_of_mem _ hx)) (m + 1) _ n (fun hb => ?_), Nat.testBit_and, Bool.and_assoc];rw [Nat.testBit_and, hnb] at hb;simp only [Bool.and_eq_true, decide_eq_true_eq] at hb;exact ⟨hb.2.1, hb.2.2.1⟩
  rw [hrest];unfold endsP;rw [Nat.testBit_and, endsM_bit, hnb];cases hb : mask.testBit n with
  | false => simp
  | true =>
   obtain ⟨h1, h2⟩ := hm hb;simp only [h1, decide_true, Bool.true_and];by_cases e : (rows.getD n []).length = m
   ·rw [List.drop_eq_nil_of_le (show (rows.getD n []).length ≤ m by omega), beginsB, e, BEq.rfl, Bool.true_or]
   ·rw [List.drop_eq_getElem_cons (show m < (rows.getD n []).length by omega), beginsB];have e2 : (rows.getD n []).getD m [] = (rows.getD n [])[m]'(by omega) := by rw [List.getD_eq_getElem?_getD (l := rows.getD n []), List.getElem?_eq_getElem (by omega)]; rfl
    rw [e2, beq_false_of_ne e, Bool.false_or, decide_eq_true (show m < (rows.getD n []).length by omega), Bool.true_and]
end
def andn (a b : Nat) : Nat := a ^^^ (a &&& b)
theorem andn_bit (a b i : Nat) : (andn a b).testBit i = (a.testBit i && !b.testBit i) := by
 unfold andn; rw [Nat.testBit_xor, Nat.testBit_and]; cases a.testBit i <;> cases b.testBit i <;> rfl
theorem and_lt_left {a n : Nat} (b : Nat) (h : a < 2 ^ n) : a &&& b < 2 ^ n := Nat.lt_of_le_of_lt Nat.and_le_left h
theorem andn_lt {a n : Nat} (b : Nat) (h : a < 2 ^ n) : andn a b < 2 ^ n := Nat.xor_lt_two_pow h (and_lt_left b h)
theorem ne_zero_bit {a : Nat} (h : a ≠ 0) : ∃ b, a.testBit b = true := by
 refine Classical.byContradiction fun hn => h ?_;apply Nat.eq_of_testBit_eq;intro i;rw [Nat.zero_testBit];cases hb : a.testBit i with
 | false => rfl
 | true => exact absurd ⟨i, hb⟩ hn
theorem bit_lt {a n b : Nat} (h : a < 2 ^ n) (hb : a.testBit b = true) : b < n := by
 rcases Nat.lt_or_ge b n with hl | hl
 ·exact hl
 ·rw [Nat.testBit_lt_two_pow (Nat.lt_of_lt_of_le h (Nat.pow_le_pow_right (by omega) hl))] at hb; cases hb
def lacks (n : Nat) : Nat → Nat
 | 0 => 0
 | k + 1 => lacks n k + if n.testBit k then 0 else 1
theorem lacks_le (n : Nat) : ∀ k, lacks n k ≤ k
 | 0 => Nat.le_refl _
 | k + 1 => by have := lacks_le n k; rw [lacks]; split <;> omega
theorem lacks_or (n m : Nat) : ∀ k, lacks (n ||| m) k ≤ lacks n k
 | 0 => Nat.le_refl _
 | k + 1 => by
  have := lacks_or n m k;rw [lacks, lacks, Nat.testBit_or];cases n.testBit k <;> cases m.testBit k <;> simp <;> omega
theorem lacks_new {n m b : Nat} (h1 : n.testBit b = false) (h2 : m.testBit b = true) : ∀ k, b < k → lacks (n ||| m) k + 1 ≤ lacks n k
 | 0, h => absurd h (by omega)
 | k + 1, h => by
  rw [lacks, lacks, Nat.testBit_or];by_cases e : b = k
  ·subst e;have := lacks_or n m b;rw [h1, h2]; simp; omega
  ·have := lacks_new h1 h2 k (by omega);cases n.testBit k <;> cases m.testBit k <;> simp <;> omega
section
variable {σ : Type} (step : σ → Int → σ) (due bit : σ → Nat) (dead : σ → Bool) (gs : List Int)
def Agr (x : σ) : Prop := ∀ w, (∀ g ∈ w, g ∈ gs) → runB step due x w = runB step bit x w
def Dv (b : Nat) (x : σ) : Prop := ∃ w, (∀ g ∈ w, g ∈ gs) ∧ (runB step due x w).testBit b ≠ (runB step bit x w).testBit b
variable {step due bit dead gs}
theorem Dv.not {b : Nat} {x : σ} (h : Dv step due bit gs b x) : ¬ Agr step due bit gs x := fun ha => by
 obtain ⟨w, hw, hne⟩ := h;rw [ha w hw] at hne;exact hne rfl
theorem Dv.back {b : Nat} {x : σ} {g : Int} (hg : g ∈ gs) (h1 : (due x).testBit b = false) (h2 : (bit x).testBit b = false) (h : Dv step due bit gs b (step x g)) : Dv step due bit gs b x := by
 obtain ⟨w, hw, hne⟩ := h;refine ⟨g :: w, fun y hy => ?_, ?_⟩
 ·rcases List.mem_cons.1 hy with rfl | hy
  ·exact hg
  ·exact hw y hy
 ·rw [runB_bit h1, runB_bit h2]; exact hne
def Okk (due bit : σ → Nat) (dead : σ → Bool) (f : σ → Nat) (b : Nat) (y : σ) : Prop := (due y).testBit b = (bit y).testBit b ∧ ((due y).testBit b = true ∨ (f y).testBit b = true ∨ dead y = true)
structure AgI (step : σ → Int → σ) (due bit : σ → Nat) (dead : σ → Bool) (gs : List Int) (x0 : σ) (f : σ → Nat) (todo : List (σ × Nat)) (cur : σ × Nat) (rest : List Int) : Prop where
 a : ∀ x b, (f x).testBit b = true → (due x).testBit b = false ∧ (bit x).testBit b = false ∧ (Dv step due bit gs b x → Dv step due bit gs b x0)
 b : ∀ x b g, (f x).testBit b = true → g ∈ gs → (∃ m, (x, m) ∈ todo ∧ m.testBit b = true) ∨ (x = cur.1 ∧ cur.2.testBit b = true ∧ g ∈ rest) ∨ Okk due bit dead f b (step x g)
 c : ∀ b, b < 64 → Okk due bit dead f b x0
 d : ∀ x m b, (x, m) ∈ todo → m.testBit b = true → (f x).testBit b = true
 e : ∀ b, cur.2.testBit b = true → rest ≠ [] → (f cur.1).testBit b = true
theorem okk_more {f f' : σ → Nat} (h : ∀ z b, (f z).testBit b = true → (f' z).testBit b = true) {b : Nat} {y : σ} (ho : Okk due bit dead f b y) : Okk due bit dead f' b y :=
 ⟨ho.1, ho.2.imp id (Or.imp (h y b) id)⟩
theorem AgI.done (hdead : ∀ x, dead x = true → ∀ w, runB step due x w = 0 ∧ runB step bit x w = 0) (hlt : ∀ x, due x < 2 ^ 64 ∧ bit x < 2 ^ 64) {x0 : σ} {f : σ → Nat} {cur : σ × Nat} (h : AgI step due bit dead gs x0 f [] cur []) : Agr step due bit gs x0 := by
 have key : ∀ (w : List Int), (∀ g ∈ w, g ∈ gs) → ∀ (x : σ) (b : Nat), Okk due bit dead f b x → (runB step due x w).testBit b = (runB step bit x w).testBit b := by
  intro w
  induction w with
  | nil => exact fun _ x b ho => ho.1
  | cons g w ih =>
   intro hw x b ho;cases hb : (due x).testBit b with
   | true =>
    have h2 := ho.1;rw [hb] at h2;rw [runB, runB, Nat.testBit_or, Nat.testBit_or, hb, ← h2, Bool.true_or, Bool.true_or]
   | false =>
    have h2 := ho.1;rw [hb] at h2;rw [runB_bit hb, runB_bit h2.symm];rcases ho.2 with h3 | h3 | h3
    ·rw [hb] at h3; cases h3
    ·rcases h.b x b g h3 (hw g (List.mem_cons_self ..)) with ⟨m, hm, _⟩ | ⟨_, _, hm⟩ | h4
     ·cases hm
     ·cases hm
     ·exact ih (fun y hy => hw y (List.mem_cons_of_mem _ hy)) _ b h4
    ·obtain ⟨e1, e2⟩ := hdead x h3 (g :: w);rw [← runB_bit hb, ← runB_bit h2.symm, e1, e2]
 intro w hw;apply Nat.eq_of_testBit_eq;intro b;by_cases hb : b < 64
 ·exact key w hw x0 b (h.c b hb)
 ·have big : ∀ (out : σ → Nat), (∀ x, out x < 2 ^ 64) → ∀ (w : List Int) (x : σ), (runB step out x w).testBit b = false := fun out ho w => by
   have one : ∀ x, (out x).testBit b = false := fun x => Nat.testBit_lt_two_pow (Nat.lt_of_lt_of_le (ho x) (Nat.pow_le_pow_right (by omega) (by omega)))
   induction w with
   | nil => exact one
   | cons g w ih => intro x; rw [runB_bit (one x)]; exact ih _
  rw [big due (fun x => (hlt x).1), big bit (fun x => (hlt x).2)]
def upd [DecidableEq σ] (f : σ → Nat) (y : σ) (m : Nat) : σ → Nat := fun z => if z = y then f y ||| m else f z
theorem upd_more [DecidableEq σ] (f : σ → Nat) (y : σ) (m : Nat) (z : σ) (b : Nat) (h : (f z).testBit b = true) : (upd f y m z).testBit b = true := by
 unfold upd;split
 ·rename_i e; subst e; rw [Nat.testBit_or, h, Bool.true_or]
 ·exact h
def freshB (due f : σ → Nat) (y : σ) (m : Nat) : Nat := andn (andn m (due y)) (f y)
theorem okk_meet [DecidableEq σ] {f : σ → Nat} {y : σ} {m b : Nat} (hno : (due y ^^^ bit y) &&& m = 0) (hb : m.testBit b = true) : Okk due bit dead (upd f y (freshB due f y m)) b y := by
 have h1 : (due y).testBit b = (bit y).testBit b := by
  have := congrArg (fun n => n.testBit b) hno;simp only [Nat.testBit_and, Nat.testBit_xor, hb, Bool.and_true, Nat.zero_testBit] at this;cases h1 : (due y).testBit b <;> cases h2 : (bit y).testBit b <;> simp_all
 refine ⟨h1, ?_⟩;cases h2 : (due y).testBit b with
 | true => exact .inl rfl
 | false =>
  right; left;unfold upd;rw [if_pos rfl, Nat.testBit_or];unfold freshB;rw [andn_bit, andn_bit, hb, h2];cases (f y).testBit b <;> rfl
theorem okk_skip [DecidableEq σ] {f : σ → Nat} {y : σ} {m b : Nat} (hno : (due y ^^^ bit y) &&& m = 0) (hb : m.testBit b = true) (hs : freshB due f y m = 0 ∨ dead y = true) : Okk due bit dead f b y := by
 have h := okk_meet (dead := dead) (f := f) hno hb;refine ⟨h.1, ?_⟩;rcases h.2 with h2 | h2 | h2
 ·exact .inl h2
 ·rcases hs with hs | hs
  ·right; left;rw [hs] at h2;unfold upd at h2;rw [if_pos rfl, Nat.or_zero] at h2;exact h2
  ·exact .inr (.inr hs)
 ·exact .inr (.inr h2)
variable {x0 : σ} {f : σ → Nat} {todo : List (σ × Nat)} {cur : σ × Nat} {g : Int} {rest : List Int}
theorem AgI.bad (h : AgI step due bit dead gs x0 f todo cur (g :: rest)) (hg : g ∈ gs) (hb : (due (step cur.1 g) ^^^ bit (step cur.1 g)) &&& cur.2 ≠ 0) : ¬ Agr step due bit gs x0 := by
 obtain ⟨b, hb⟩ := ne_zero_bit hb;rw [Nat.testBit_and, Nat.testBit_xor, Bool.and_eq_true] at hb;obtain ⟨h1, h2⟩ := hb;obtain ⟨a1, a2, a3⟩ := h.a cur.1 b (h.e b h2 (by simp));refine (a3 (Dv.back hg a1 a2 ⟨[], (by simp), ?_⟩)).not;rw [runB, runB];intro e;rw [e] at h1; simp at h1
theorem AgI.skip [DecidableEq σ] (h : AgI step due bit dead gs x0 f todo cur (g :: rest)) (hno : (due (step cur.1 g) ^^^ bit (step cur.1 g)) &&& cur.2 = 0) (hs : freshB due f (step cur.1 g) cur.2 = 0 ∨ dead (step cur.1 g) = true) : AgI step due bit dead gs x0 f todo cur rest := by
 refine ⟨h.a, fun x b k hx hk => ?_, h.c, h.d, fun b hb _ => h.e b hb (by simp)⟩;rcases h.b x b k hx hk with h1 | ⟨h1, h2, h3⟩ | h1
 ·exact .inl h1
 ·rcases List.mem_cons.1 h3 with e | h3
  ·right; right;subst e; rw [h1];exact okk_skip hno h2 hs
  ·exact .inr (.inl ⟨h1, h2, h3⟩)
 ·exact .inr (.inr h1)
theorem AgI.push [DecidableEq σ] (h : AgI step due bit dead gs x0 f todo cur (g :: rest)) (hg : g ∈ gs) (hno : (due (step cur.1 g) ^^^ bit (step cur.1 g)) &&& cur.2 = 0) :
  AgI step due bit dead gs x0 (upd f (step cur.1 g) (freshB due f (step cur.1 g) cur.2)) (todo ++ [(step cur.1 g, freshB due f (step cur.1 g) cur.2)]) cur rest := by
 have up := upd_more f (step cur.1 g) (freshB due f (step cur.1 g) cur.2);refine ⟨fun x b hx => ?_, fun x b k hx hk => ?_, fun b hb => okk_more up (h.c b hb), fun x m b hx hb => ?_, fun b hb _ => up _ _ (h.e b hb (by simp))⟩
 ·by_cases ho : (f x).testBit b = true
  ·exact h.a x b ho
  ·have e : x = step cur.1 g := by
    refine Classical.byContradiction fun e => ho ?_;unfold upd at hx; rw [if_neg e] at hx; exact hx
   subst e;unfold upd at hx;rw [if_pos rfl, Nat.testBit_or, Bool.or_eq_true] at hx;have hx := hx.resolve_left ho;unfold freshB at hx;rw [andn_bit, andn_bit] at hx;simp only [Bool.and_eq_true, Bool.not_eq_true'] at hx;obtain ⟨⟨m1, m2⟩, _⟩ := hx;have ok := okk_meet (dead := dead) (f := f) hno m1;obtain ⟨a1, a2, a3⟩ := h.a cur.1 b (h.e b m1 (by simp));exact ⟨m2, by rw [← ok.1]; exact m2, fun hd => a3 (Dv.back hg a1 a2 hd)⟩
 ·by_cases ho : (f x).testBit b = true
  ·rcases h.b x b k ho hk with ⟨m, h1, h2⟩ | ⟨h1, h2, h3⟩ | h1
   ·exact .inl ⟨m, List.mem_append_left _ h1, h2⟩
   ·rcases List.mem_cons.1 h3 with e | h3
    ·right; right;subst e; rw [h1];exact okk_meet hno h2
    ·exact .inr (.inl ⟨h1, h2, h3⟩)
   ·exact .inr (.inr (okk_more up h1))
  ·left;have e : x = step cur.1 g := by
    refine Classical.byContradiction fun e => ho ?_;unfold upd at hx; rw [if_neg e] at hx; exact hx
   subst e;refine ⟨_, List.mem_append_right _ (List.mem_singleton.2 rfl), ?_⟩;unfold upd at hx;rw [if_pos rfl, Nat.testBit_or, Bool.or_eq_true] at hx;exact hx.resolve_left ho
 ·rcases List.mem_append.1 hx with hx | hx
  ·exact up _ _ (h.d x m b hx hb)
  ·rw [List.mem_singleton] at hx;injection hx with e1 e2;subst e1; subst e2;unfold upd;rw [if_pos rfl, Nat.testBit_or, hb, Bool.or_true]
theorem AgI.pop {cur' : σ × Nat} (h : AgI step due bit dead gs x0 f (todo ++ [cur']) cur []) : AgI step due bit dead gs x0 f todo cur' gs := by
 refine ⟨h.a, fun x b k hx hk => ?_, h.c, fun x m b hx hb => h.d x m b (List.mem_append_left _ hx) hb, fun b hb _ => h.d cur'.1 cur'.2 b (List.mem_append_right _ (List.mem_singleton.2 rfl)) hb⟩;rcases h.b x b k hx hk with ⟨m, h1, h2⟩ | ⟨_, _, h3⟩ | h1
 ·rcases List.mem_append.1 h1 with h1 | h1
  ·exact .inl ⟨m, h1, h2⟩
  ·rw [List.mem_singleton] at h1;subst h1;exact .inr (.inl ⟨rfl, h2, hk⟩)
 ·cases h3
 ·exact .inr (.inr h1)
theorem agr_bad0 (hb : (due x0 ^^^ bit x0) &&& (2 ^ 64 - 1) ≠ 0) : ¬ Agr step due bit gs x0 := fun ha => by
 have h := ha [] (by simp);rw [runB, runB] at h;rw [h, Nat.xor_self, Nat.zero_and] at hb;exact hb rfl
theorem bit_all {b : Nat} (h : b < 64) : (2 ^ 64 - 1).testBit b = true := by rw [Nat.testBit_two_pow_sub_one]; simpa using h
theorem AgI.start0 [DecidableEq σ] (cur : σ × Nat) (hno : (due x0 ^^^ bit x0) &&& (2 ^ 64 - 1) = 0) (hs : freshB due (fun _ => 0) x0 (2 ^ 64 - 1) = 0 ∨ dead x0 = true) : AgI step due bit dead gs x0 (fun _ => 0) [] cur [] :=
 ⟨fun x b h => by simp at h, fun x b g h => by simp at h, fun b hb => okk_skip hno (bit_all hb) hs, (fun x m b h => by cases h), fun b _ h => absurd rfl h⟩
theorem AgI.start1 [DecidableEq σ] (cur : σ × Nat) (hno : (due x0 ^^^ bit x0) &&& (2 ^ 64 - 1) = 0) : AgI step due bit dead gs x0 (upd (fun _ => 0) x0 (freshB due (fun _ => 0) x0 (2 ^ 64 - 1))) [(x0, freshB due (fun _ => 0) x0 (2 ^ 64 - 1))] cur [] := by
 have key : ∀ x b, (upd (fun _ => 0) x0 (freshB due (fun _ => 0) x0 (2 ^ 64 - 1)) x).testBit b = true → x = x0 ∧ (freshB due (fun _ => 0) x0 (2 ^ 64 - 1)).testBit b = true := fun x b h => by
  unfold upd at h;split at h
  ·rename_i e; rw [Nat.zero_or] at h; exact ⟨e, h⟩
  ·simp at h
 refine ⟨fun x b h => ?_, fun x b g h _ => ?_, fun b hb => okk_meet hno (bit_all hb), fun x m b h hb => ?_, fun b _ h => absurd rfl h⟩
 ·obtain ⟨rfl, hb⟩ := key x b h;unfold freshB at hb;rw [andn_bit, andn_bit] at hb;simp only [Bool.and_eq_true, Bool.not_eq_true'] at hb;have ok := okk_meet (dead := dead) (f := fun _ => 0) hno hb.1.1;exact ⟨hb.1.2, by rw [← ok.1]; exact hb.1.2, id⟩
 ·obtain ⟨rfl, hb⟩ := key x b h;exact .inl ⟨_, List.mem_singleton.2 rfl, hb⟩
 ·rw [List.mem_singleton] at h;injection h with e1 e2;subst e1; subst e2;unfold upd;rw [if_pos rfl, Nat.zero_or]; exact hb
def lackS (f : σ → Nat) (L : List σ) : Nat := (L.map fun z => lacks (f z) 64).sum
theorem lackS_le (f : σ → Nat) : ∀ L : List σ, lackS f L ≤ 64 * L.length
 | [] => Nat.le_refl _
 | z :: L => by
  have h1 := lackS_le f L;have h2 := lacks_le (f z) 64;unfold lackS at h1 ⊢;simp; omega
theorem lackS_upd_le [DecidableEq σ] (f : σ → Nat) (y : σ) (m : Nat) : ∀ L : List σ, lackS (upd f y m) L ≤ lackS f L
 | [] => Nat.le_refl _
 | z :: L => by
  have h1 := lackS_upd_le f y m L;unfold lackS at h1 ⊢;rw [List.map_cons, List.map_cons, List.sum_cons, List.sum_cons];have h2 : lacks (upd f y m z) 64 ≤ lacks (f z) 64 := by
   unfold upd; split
   ·rename_i e; subst e; exact lacks_or _ _ _
   ·exact Nat.le_refl _
  omega
theorem lackS_upd [DecidableEq σ] {f : σ → Nat} {y : σ} {m : Nat} (hm : andn m (f y) ≠ 0) (hlt : m < 2 ^ 64) : ∀ {L : List σ}, y ∈ L → lackS (upd f y m) L + 1 ≤ lackS f L
 | [], h => by cases h
 | z :: L, h => by
  have h0 := lackS_upd_le f y m L;unfold lackS at h0 ⊢;rw [List.map_cons, List.map_cons, List.sum_cons, List.sum_cons];by_cases e : z = y
  ·subst e;obtain ⟨b, hb⟩ := ne_zero_bit hm;have hb64 := bit_lt (andn_lt (f z) hlt) hb;rw [andn_bit] at hb;simp only [Bool.and_eq_true, Bool.not_eq_true'] at hb;have h2 : lacks (upd f z m z) 64 + 1 ≤ lacks (f z) 64 := by
    unfold upd; rw [if_pos rfl]; exact lacks_new hb.2 hb.1 64 hb64
   omega
  ·have h2 := lackS_upd hm hlt (L := L) (by rcases List.mem_cons.1 h with h | h; exact absurd h.symm e; exact h);have h3 : upd f y m z = f z := by unfold upd; rw [if_neg e]
   unfold lackS at h2;rw [h3]; omega
theorem fresh_again (due f : σ → Nat) (y : σ) (m : Nat) : andn (freshB due f y m) (f y) = freshB due f y m := by
 apply Nat.eq_of_testBit_eq;intro i;unfold freshB;simp only [andn_bit];cases (f y).testBit i <;> simp
end
abbrev PS := (Nat × Nat) × Int
def stepQ (rows : List (List (List Int))) (cls acls : List Int) (tab : List (List Int)) (x : PS) (g : Int) : PS := (stepP rows cls x.1 g, stepA acls tab x.2 g)
def dueQ (rows : List (List (List Int))) (x : PS) : Nat := endsP rows x.1
def bitQ (ends : List Nat) (x : PS) : Nat := bitsA ends x.2
def deadQ (x : PS) : Bool := x.1.2 == 0 && x.2 == -1
section
variable {rows : List (List (List Int))} {cls acls : List Int} {tab : List (List Int)} {ends : List Nat}
theorem runQ_due (w : List Int) (x : PS) : runB (stepQ rows cls acls tab) (dueQ rows) x w = runB (stepP rows cls) (endsP rows) x.1 w := runB_hom Prod.fst (fun _ _ => rfl) (fun _ => rfl) w x
theorem runQ_bit (w : List Int) (x : PS) : runB (stepQ rows cls acls tab) (bitQ ends) x w = runB (stepA acls tab) (bitsA ends) x.2 w := runB_hom Prod.snd (fun _ _ => rfl) (fun _ => rfl) w x
theorem deadQ_run {x : PS} (h : deadQ x = true) (w : List Int) : runB (stepQ rows cls acls tab) (dueQ rows) x w = 0 ∧ runB (stepQ rows cls acls tab) (bitQ ends) x w = 0 := by
 unfold deadQ at h;obtain ⟨⟨m, r⟩, s⟩ := x;simp only [Bool.and_eq_true, beq_iff_eq] at h;obtain ⟨rfl, rfl⟩ := h;rw [runQ_due, runQ_bit];refine ⟨?_, runB_zero bitsA_ended stepA_ended w⟩;cases w with
 | nil => exact endsP_dead rows m
 | cons g w => rw [runB, endsP_dead, show stepP rows cls (m, 0) g = (0, 0) from behindP_dead _ _ _ _, runB_zero (endsP_dead rows 0) (stepP_dead rows cls)]; rfl
end
def glyL (n : Nat) : List Int := (List.range n).map fun (i : Nat) => (i : Int)
theorem glyL_mem {n : Nat} {g : Int} : g ∈ glyL n ↔ 0 ≤ g ∧ g < (n : Int) := by
 unfold glyL;rw [List.mem_map];constructor
 ·rintro ⟨i, hi, rfl⟩; rw [List.mem_range] at hi; omega
 ·rintro ⟨h1, h2⟩; exact ⟨g.toNat, by rw [List.mem_range]; omega, by omega⟩
def HalfOK (rows : List (List (List Int))) (cls : List Int) (p0 : Nat × Nat) (acls : List Int) (tab : List (List Int)) (ends : List Nat) (n : Nat) : Prop := Agr (stepQ rows cls acls tab) (dueQ rows) (bitQ ends) (glyL n) (p0, 0)
theorem halfOK_iff {rows : List (List (List Int))} {cls : List Int} {p0 : Nat × Nat} {acls : List Int} {tab : List (List Int)} {ends : List Nat} {n : Nat} :
  HalfOK rows cls p0 acls tab ends n ↔ ∀ w, (∀ g ∈ w, 0 ≤ g ∧ g < (n : Int)) → runB (stepP rows cls) (endsP rows) p0 w = runB (stepA acls tab) (bitsA ends) 0 w := by
 unfold HalfOK Agr;constructor
 ·intro h w hw;have := h w (fun g hg => glyL_mem.2 (hw g hg));rwa [runQ_due, runQ_bit] at this
 ·intro h w hw;rw [runQ_due, runQ_bit];exact h w (fun g hg => glyL_mem.1 (hw g hg))
theorem halfOK_built {rows : List (List (List Int))} {cls : List Int} {K : Nat} {p0 : Nat × Nat} {met : List (Nat × Nat)} {tab : List (List Int)} (hst : StOK (nxP rows cls) K p0 met.length met tab) (hG : GlyOK cls K) : HalfOK rows cls p0 cls tab (met.map (endsP rows)) cls.length :=
 halfOK_iff.2 fun w hw => (built_run hst hG w hw 0 p0 hst.h0).symm
def apartL {κ : Type} [DecidableEq κ] (kd : Nat → κ) : Nat → List Nat
 | 0 => []
 | n + 1 => if kd n ∈ (apartL kd n).map kd then apartL kd n else apartL kd n ++ [n]
section
variable {κ : Type} [DecidableEq κ] (kd : Nat → κ)
theorem apart_lt : ∀ (n j : Nat), j ∈ apartL kd n → j < n
 | 0, j, h => by simp [apartL] at h
 | n + 1, j, h => by
  rw [apartL] at h;split at h
  ·have := apart_lt n j h; omega
  ·rcases List.mem_append.1 h with h | h
   ·have := apart_lt n j h; omega
   ·simp at h; omega
theorem apart_rep : ∀ (n i : Nat), i < n → ∃ j ∈ apartL kd n, kd j = kd i
 | 0, _, h => absurd h (by omega)
 | n + 1, i, h => by
  rw [apartL];by_cases e : i = n
  ·subst e;split
   ·rename_i hm;obtain ⟨j, h1, h2⟩ := List.mem_map.1 hm;exact ⟨j, h1, h2⟩
   ·exact ⟨i, List.mem_append_right _ (List.mem_singleton.2 rfl), rfl⟩
  ·obtain ⟨j, h1, h2⟩ := apart_rep n i (by omega);split
   ·exact ⟨j, h1, h2⟩
   ·exact ⟨j, List.mem_append_left _ h1, h2⟩
theorem apart_len : ∀ n, (apartL kd n).length ≤ n
 | 0 => Nat.le_refl _
 | n + 1 => by
  have := apart_len n;rw [apartL]; split
  ·omega
  ·simp; omega
end
theorem runB_rep {σ : Type} {step : σ → Int → σ} {gs gs' : List Int} (h : ∀ g ∈ gs', ∃ g2 ∈ gs, ∀ x, step x g = step x g2) : ∀ (w : List Int), (∀ g ∈ w, g ∈ gs') → ∃ w2 : List Int, (∀ g ∈ w2, g ∈ gs) ∧ ∀ (out : σ → Nat) (x : σ), runB step out x w = runB step out x w2
 | [], _ => ⟨[], by simp, fun _ _ => rfl⟩
 | g :: w, hw => by
  obtain ⟨g2, hg2, e⟩ := h g (hw g (List.mem_cons_self ..));obtain ⟨w2, h1, h2⟩ := runB_rep h w (fun x hx => hw x (List.mem_cons_of_mem _ hx));refine ⟨g2 :: w2, fun x hx => ?_, fun out x => by rw [runB, runB, e x, h2]⟩;rcases List.mem_cons.1 hx with rfl | hx
  ·exact hg2
  ·exact h1 x hx
theorem agr_rep {σ : Type} {step : σ → Int → σ} {due bit : σ → Nat} {gs gs' : List Int} (hs : ∀ g ∈ gs, g ∈ gs') (h : ∀ g ∈ gs', ∃ g2 ∈ gs, ∀ x, step x g = step x g2) (x : σ) : Agr step due bit gs x ↔ Agr step due bit gs' x := by
 constructor
 ·intro ha w hw;obtain ⟨w2, h1, h2⟩ := runB_rep h w hw;rw [h2, h2]; exact ha w2 h1
 ·intro ha w hw;exact ha w (fun g hg => hs g (hw g hg))
def kindG (cls acls : List Int) (i : Nat) : Int × Int × Bool := (cls.getD i 0, acls.getD i 0, decide (i < acls.length))
theorem stepQ_kind {rows : List (List (List Int))} {cls acls : List Int} {tab : List (List Int)} {i j : Nat} (h : kindG cls acls i = kindG cls acls j) (x : PS) : stepQ rows cls acls tab x (i : Int) = stepQ rows cls acls tab x (j : Int) := by
 unfold kindG at h;simp only [Prod.mk.injEq, decide_eq_decide] at h;obtain ⟨h1, h2, h3⟩ := h;unfold stepQ stepP clsAt;rw [Int.toNat_natCast, Int.toNat_natCast, h1];congr 1;unfold stepA;rw [Int.toNat_natCast, Int.toNat_natCast, h2];have e : (x.2 < 0 ∨ (tab.length : Int) ≤ x.2 ∨ (i : Int) < 0 ∨ (acls.length : Int) ≤ (i : Int)) ↔ (x.2 < 0 ∨ (tab.length : Int) ≤ x.2 ∨ (j : Int) < 0 ∨ (acls.length : Int) ≤ (j : Int)) := by
  by_cases hi : i < acls.length
  ·have hj := h3.1 hi;omega
  ·have hj : ¬ j < acls.length := fun e => hi (h3.2 e);omega
 simp only [e]
def repL (cls acls : List Int) : List Int := (apartL (kindG cls acls) cls.length).map fun (i : Nat) => (i : Int)
theorem halfOK_rep {rows : List (List (List Int))} {cls : List Int} {p0 : Nat × Nat} {acls : List Int} {tab : List (List Int)} {ends : List Nat} : Agr (stepQ rows cls acls tab) (dueQ rows) (bitQ ends) (repL cls acls) (p0, 0) ↔ HalfOK rows cls p0 acls tab ends cls.length := by
 refine agr_rep (fun g hg => ?_) (fun g hg => ?_) _
 ·obtain ⟨i, hi, rfl⟩ := List.mem_map.1 hg;have := apart_lt _ _ _ hi;exact glyL_mem.2 (by omega)
 ·obtain ⟨h0, h1⟩ := glyL_mem.1 hg;obtain ⟨j, hj, e⟩ := apart_rep (kindG cls acls) cls.length g.toNat (by omega);refine ⟨(j : Int), List.mem_map.2 ⟨j, hj, rfl⟩, fun x => ?_⟩;have := stepQ_kind (rows := rows) (tab := tab) e x;rw [this, Int.toNat_of_nonneg h0]
def allQ (met : List (Nat × Nat)) (k : Nat) : List PS := ((0, 0) :: met).flatMap fun p => (List.range (k + 2)).map fun (j : Nat) => (p, (j : Int) - 1)
theorem sum_const {α : Type} (c : Nat) : ∀ l : List α, (l.map fun _ => c).sum = l.length * c
 | [] => by simp
 | a :: l => by rw [List.map_cons, List.sum_cons, sum_const c l, List.length_cons, Nat.add_mul]; omega
theorem allQ_len (met : List (Nat × Nat)) (k : Nat) : (allQ met k).length = (met.length + 1) * (k + 2) := by
 unfold allQ;rw [List.length_flatMap];simp only [List.length_map, List.length_range];rw [sum_const]; rfl
theorem allQ_mem {met : List (Nat × Nat)} {k : Nat} {x : PS} : x ∈ allQ met k ↔ (x.1 = (0, 0) ∨ x.1 ∈ met) ∧ -1 ≤ x.2 ∧ x.2 ≤ (k : Int) := by
 unfold allQ;rw [List.mem_flatMap];constructor
 ·rintro ⟨p, hp, h⟩;obtain ⟨j, hj, rfl⟩ := List.mem_map.1 h;rw [List.mem_range] at hj;refine ⟨?_, by dsimp only; omega, by dsimp only; omega⟩;rcases List.mem_cons.1 hp with rfl | hp
  ·exact .inl rfl
  ·exact .inr hp
 ·rintro ⟨hp, h1, h2⟩;refine ⟨x.1, ?_, List.mem_map.2 ⟨(x.2 + 1).toNat, by rw [List.mem_range]; omega, ?_⟩⟩
  ·rcases hp with hp | hp
   ·rw [hp]; exact List.mem_cons_self ..
   ·exact List.mem_cons_of_mem _ hp
  ·obtain ⟨p, s⟩ := x;dsimp only at h1 h2 ⊢;rw [show (((s + 1).toNat : Nat) : Int) - 1 = s by omega]
theorem stepA_ge {cls : List Int} {rows : List (List Int)} (s g : Int) : -1 ≤ stepA cls rows s g := by
 unfold stepA;split
 ·omega
 ·dsimp only;split
  ·omega
  ·split <;> omega
section
variable {rows : List (List (List Int))} {cls : List Int} {K : Nat} {p0 : Nat × Nat} {met : List (Nat × Nat)} {tab : List (List Int)} {acls : List Int} {atab : List (List Int)}
theorem allQ_step (hst : StOK (nxP rows cls) K p0 met.length met tab) (hG : GlyOK cls K) {g : Int} (h0 : 0 ≤ g) (h1 : g < (cls.length : Int)) {x : PS} (hx : x ∈ allQ met atab.length) : stepQ rows cls acls atab x g ∈ allQ met atab.length := by
 obtain ⟨hp, h2, h3⟩ := allQ_mem.1 hx;refine allQ_mem.2 ⟨?_, stepA_ge _ _, ?_⟩
 ·show stepP rows cls x.1 g = (0, 0) ∨ stepP rows cls x.1 g ∈ met
  rcases hp with hp | hp
  ·left; rw [hp]; exact stepP_dead _ _ _
  ·obtain ⟨i, hi⟩ := List.mem_iff_getElem?.1 hp;rcases built_step hst hG h0 h1 hi with ⟨e, _⟩ | ⟨j, e, _⟩
   ·exact .inl e
   ·exact .inr (List.mem_of_getElem? e)
 ·have := stepA_lt (cls := acls) (rows := atab) x.2 g;show stepA acls atab x.2 g ≤ _
  omega
theorem allQ_start (hst : StOK (nxP rows cls) K p0 met.length met tab) : ((p0, 0) : PS) ∈ allQ met atab.length := allQ_mem.2 ⟨.inr (List.mem_of_getElem? hst.h0), by dsimp only; omega, by dsimp only; omega⟩
end
theorem bitsOf_ext {a : Nat} {p : Nat → Bool} {n : Nat} (h : ∀ i, a.testBit i = (decide (i < n) && p i)) : a = bitsOf p n := by
 apply Nat.eq_of_testBit_eq;intro i;rw [h, bitsOf_bit]
section
variable {rows : List (List (List Int))} {cls gl : List Int} {K : Nat}
end
section
variable {σ : Type} (step : σ → Int → σ) (due bit : σ → Nat) (gs : List Int)
variable {step due bit gs} {x0 : σ} {all : List (σ × Nat)} {i : Nat} {dn : List Int}
end
theorem nodup_len {α : Type} [DecidableEq α] : ∀ {l m : List α}, l.Nodup → (∀ x ∈ l, x ∈ m) → l.length ≤ m.length
 | [], _, _, _ => Nat.zero_le _
 | a :: l, m, hn, hs => by
  have ha := hs a (List.mem_cons_self ..);rw [List.nodup_cons] at hn;have h1 := nodup_len (l := l) (m := m.erase a) hn.2 (fun x hx => (List.mem_erase_of_ne (fun e => hn.1 (by rw [← e]; exact hx))).2 (hs x (List.mem_cons_of_mem _ hx)));rw [List.length_erase_of_mem ha] at h1;have := List.length_pos_of_mem ha;rw [List.length_cons]; omega
section
variable {α : Type} [DecidableEq α] {nx : α → Nat → Option α} {K : Nat}
theorem statesL_some {M : List α} (hM : ∀ p ∈ M, ∀ c, c < K → ∀ q, nx p c = some q → q ∈ M) (hl : M.length ≤ 20000) : ∀ (f n : Nat) (met : List α) (tab : List (List Int)), 20002 ≤ f + n → n ≤ met.length → met.Nodup → (∀ p ∈ met, p ∈ M) →
  ∃ r, statesL nx K f n met tab = some r ∧ ∀ q ∈ r.2, q ∈ M
 | 0, n, met, tab, h1, h2, h3, h4 => by have := nodup_len h3 h4; omega
 | f + 1, n, met, tab, h1, h2, h3, h4 => by
  rw [statesL];cases hs : met[n]? with
  | none => exact ⟨_, rfl, h4⟩
  | some src =>
   dsimp only;obtain ⟨t, e1, e2, e3, e4, e5, _⟩ := rowL_spec nx src met h3 K;have hm : ∀ p ∈ (rowL nx src met K).2, p ∈ M := fun p hp => by
    rw [e1] at hp;rcases List.mem_append.1 hp with hp | hp
    ·exact h4 p hp
    ·obtain ⟨k, hk, e⟩ := e5 p hp;exact hM src (h4 src (List.mem_of_getElem? hs)) k hk p e
   have hle := nodup_len e2 hm;rw [if_neg (by omega)];refine statesL_some hM hl f (n + 1) _ _ (by omega) ?_ e2 hm;have := (List.getElem?_eq_some_iff.1 hs).1;rw [e1, List.length_append]; omega
theorem allL_some {M : List α} (hM : ∀ p ∈ M, ∀ c, c < K → ∀ q, nx p c = some q → q ∈ M) (hl : M.length ≤ 20000) {p0 : α} (h0 : p0 ∈ M) : ∃ r, allL nx K p0 = some r ∧ ∀ q ∈ r.2, q ∈ M :=
 statesL_some hM hl 20002 0 [p0] [] (by omega) (by simp) (by simp) (fun p hp => by rw [List.mem_singleton] at hp; rw [hp]; exact h0)
end
theorem allP_some {rows : List (List (List Int))} (cls : List Int) (K : Nat) {k m : Nat} (hm : ∀ row ∈ rows, row.length ≤ m) (hl : (m + 1) * 2 ^ k ≤ 20000) {x : Nat} (hx : x < 2 ^ k) : ∃ r, allL (nxP rows cls) K (0, x) = some r := by
 have key : ∀ p : Nat × Nat, p ∈ ((List.range (m + 1)).flatMap fun a => (List.range (2 ^ k)).map fun b => (a, b)) ↔ p.1 ≤ m ∧ p.2 < 2 ^ k := fun p => by
  rw [List.mem_flatMap];constructor
  ·rintro ⟨a, ha, h⟩;obtain ⟨b, hb, rfl⟩ := List.mem_map.1 h;rw [List.mem_range] at ha hb;exact ⟨by dsimp only; omega, hb⟩
  ·rintro ⟨h1, h2⟩;exact ⟨p.1, List.mem_range.2 (by omega), List.mem_map.2 ⟨p.2, List.mem_range.2 h2, rfl⟩⟩
 have hM : ∀ p ∈ ((List.range (m + 1)).flatMap fun a => (List.range (2 ^ k)).map fun b => (a, b)), ∀ c, c < K → ∀ q, nxP rows cls p c = some q → q ∈ ((List.range (m + 1)).flatMap fun a => (List.range (2 ^ k)).map fun b => (a, b)) := fun p hp c _ q hq => by
  obtain ⟨h1, h2⟩ := (key p).1 hp;obtain ⟨e1, e2, e3, _⟩ := nxP_some hq;refine (key q).2 ⟨?_, by rw [e3]; exact and_lt_left _ h2⟩;rw [e1];rw [e3] at e2;obtain ⟨b, hb⟩ := ne_zero_bit e2;rw [Nat.testBit_and, Bool.and_eq_true] at hb;have hb := hb.2;unfold nextM at hb;rw [bitsOf_bit] at hb;simp only [Bool.and_eq_true, decide_eq_true_eq] at hb;obtain ⟨h3, h4, _⟩ := hb;have := hm _ (List.getElem_mem h3);rw [List.getD_eq_getElem?_getD, List.getElem?_eq_getElem h3] at h4;simp only [Option.getD_some] at h4;omega
 have hL : ((List.range (m + 1)).flatMap fun a => (List.range (2 ^ k)).map fun b => (a, b)).length ≤ 20000 := by
  rw [List.length_flatMap];simp only [List.length_map, List.length_range];rw [sum_const, List.length_range]; exact hl
 obtain ⟨r, h, _⟩ := allL_some hM hL ((key (0, x)).2 ⟨Nat.zero_le _, hx⟩);exact ⟨r, h⟩
end Go.Proofs.YtkmdakampkfioaaGreatDoor
