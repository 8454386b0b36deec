/- Plain words: the states of rules: how many sets were met, and by which rules; the code's by a class, the document's by a glyph. -/
import Derived.Test.YtgcmedkaadagmaaDoorAU1
namespace Go.Proofs.YtgcmedkaadagmaaDoor

/-- The number whose bits are those of which p holds, below n. -/
def bitsOf (p : Nat → Bool) : Nat → Nat
  | 0 => 0
  | n + 1 => if p n then bitsOf p n ||| 2 ^ n else bitsOf p n
theorem bitsOf_bit (p : Nat → Bool) : ∀ (n i : Nat), (bitsOf p n).testBit i = (decide (i < n) && p i)
  | 0, i => by simp [bitsOf]
  | n + 1, i => by
    rw [bitsOf]
    by_cases hp : p n = true
    · rw [if_pos hp, Nat.testBit_or, bitsOf_bit p n i, Nat.testBit_two_pow]
      by_cases hi : n = i
      · subst hi; simp [hp]
      · by_cases h : i < n
        · simp [h, show i < n + 1 by omega]
          exact fun e => absurd e hi
        · simp [h, hi, show ¬ i < n + 1 by omega]
    · rw [if_neg hp, bitsOf_bit p n i]
      by_cases hi : n = i
      · subst hi; simp [hp]
      · by_cases h : i < n
        · simp [h, show i < n + 1 by omega]
        · simp [h, show ¬ i < n + 1 by omega]
theorem bitsOf_lt (p : Nat → Bool) : ∀ n, bitsOf p n < 2 ^ n
  | 0 => by simp [bitsOf]
  | n + 1 => by
    have h := bitsOf_lt p n
    rw [bitsOf]
    split
    · refine Nat.or_lt_two_pow (Nat.lt_of_lt_of_le h (Nat.pow_le_pow_right (by omega) (by omega))) ?_
      exact Nat.pow_lt_pow_right (by omega) (by omega)
    · exact Nat.lt_of_lt_of_le h (Nat.pow_le_pow_right (by omega) (by omega))
/-- Is a glyph's class this one? -/
def isCls (cls : List Int) (g : Int) (c : Int) : Bool := decide (0 ≤ g) && decide (g < (cls.length : Int)) && (cls.getD g.toNat 0 == c)
/-- The rules whose set number met has a glyph of a class. -/
def nextM (rows : List (List (List Int))) (cls : List Int) (met : Nat) (c : Int) : Nat := bitsOf (fun n => decide (met < (rows.getD n []).length) && ((rows.getD n []).getD met []).any fun g => isCls cls g c) rows.length
/-- The rules whose rows have so many sets. -/
def endsM (rows : List (List (List Int))) (met : Nat) : Nat := bitsOf (fun n => (rows.getD n []).length == met) rows.length
/-- The state behind one, by a class. -/
def behindP (rows : List (List (List Int))) (cls : List Int) (p : Nat × Nat) (c : Int) : Nat × Nat :=
  if p.2 &&& nextM rows cls p.1 c = 0 then (0, 0) else (p.1 + 1, p.2 &&& nextM rows cls p.1 c)
def endsP (rows : List (List (List Int))) (p : Nat × Nat) : Nat := p.2 &&& endsM rows p.1
/-- The document's: a list of rules. -/
def behindD (rows : List (List (List Int))) (s : Nat × List Nat) (g : Int) : Nat × List Nat :=
  (s.1 + 1, s.2.filter fun n => decide (s.1 < (rows.getD n []).length) && ((rows.getD n []).getD s.1 []).contains g)
def listOf (m k : Nat) : List Nat := (List.range k).filter fun i => m.testBit i
/-- Glyphs of one class are in the same sets. -/
def ClsOK (rows : List (List (List Int))) (cls : List Int) : Prop := ∀ (g g' c : Int), isCls cls g c = true → isCls cls g' c = true → ∀ row ∈ rows, ∀ s ∈ row, s.contains g = s.contains g'
theorem any_cls {rows : List (List (List Int))} {cls : List Int} {g c : Int} (h : ClsOK rows cls) (hg : isCls cls g c = true) {row : List (List Int)} (hr : row ∈ rows) {s : List Int} (hs : s ∈ row) : (s.any fun g' => isCls cls g' c) = s.contains g := by
  rw [Bool.eq_iff_iff]
  constructor
  · intro ha
    obtain ⟨g', h1, h2⟩ := List.any_eq_true.1 ha
    rw [h g g' c hg h2 row hr s hs]
    simpa using h1
  · intro hc
    exact List.any_eq_true.2 ⟨g, by simpa using hc, hg⟩
/-- By a glyph of the class the document's rules are the bits of the code's. -/
theorem behind_same {rows : List (List (List Int))} {cls : List Int} {g c : Int} (h : ClsOK rows cls) (hg : isCls cls g c = true) (p : Nat × Nat) : (behindD rows (p.1, listOf p.2 rows.length) g).2 = listOf (p.2 &&& nextM rows cls p.1 c) rows.length := by
  unfold behindD listOf
  dsimp only
  rw [List.filter_filter]
  refine List.filter_congr fun n hn => ?_
  have hn' : n < rows.length := by simpa using hn
  rw [Nat.testBit_and]
  unfold nextM
  rw [bitsOf_bit, Bool.and_comm]
  congr 1
  simp only [hn', decide_true, Bool.true_and]
  by_cases hm : p.1 < (rows.getD n []).length
  · simp only [hm, decide_true, Bool.true_and]
    refine (any_cls h hg (row := rows.getD n []) ?_ ?_).symm
    · rw [List.getD_eq_getElem?_getD, List.getElem?_eq_getElem hn']; exact List.getElem_mem hn'
    · rw [List.getD_eq_getElem?_getD (l := rows.getD n []), List.getElem?_eq_getElem hm]; exact List.getElem_mem hm
  · simp only [hm, decide_false, Bool.false_and]

end Go.Proofs.YtgcmedkaadagmaaDoor
