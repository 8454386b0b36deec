/- Plain words: automata, and what they tell of rows of glyphs. -/
namespace Go.Proofs.YtgcmedkaadagmaaDoor

/-- An automaton: classes, states by classes, bits by states. -/
structure Au where
  cls : List Int
  fore : List (List Int)
  back : List (List Int)
  fe : List Nat
  be : List Nat
  deriving Inhabited
/-- The state behind one, by a glyph; -1: it ends. -/
def stepA (cls : List Int) (rows : List (List Int)) (s g : Int) : Int :=
  if s < 0 ∨ (rows.length : Int) ≤ s ∨ g < 0 ∨ (cls.length : Int) ≤ g then -1
  else
    let row := rows.getD s.toNat []
    let c := cls.getD g.toNat 0
    if c < 0 ∨ (row.length : Int) ≤ c then -1
    else
      let n := row.getD c.toNat 0
      if 0 ≤ n ∧ n < (rows.length : Int) then n else -1
def bitsA (ends : List Nat) (s : Int) : Nat := if s < 0 then 0 else (ends[s.toNat]?).getD 0
def readA (cls : List Int) (rows : List (List Int)) (ends : List Nat) : Int → Nat → List Int → Nat
  | _, acc, [] => acc
  | s, acc, g :: gs =>
    if stepA cls rows s g < 0 then acc
    else readA cls rows ends (stepA cls rows s g) (acc ||| bitsA ends (stepA cls rows s g)) gs
def foreA (a : Au) (l : List Int) : Nat := readA a.cls a.fore a.fe 0 (bitsA a.fe 0) l
def backA (a : Au) (l : List Int) : Nat := readA a.cls a.back a.be 0 (bitsA a.be 0) l
/-- The least bit's number, of those below 64. -/
def leastA (n : Nat) : Option Nat := (List.range 64).find? fun i => n.testBit i

section
variable {cls : List Int} {rows : List (List Int)} {ends : List Nat}
theorem stepA_lt (s g : Int) : stepA cls rows s g < (rows.length : Int) := by
  unfold stepA
  split
  · omega
  · dsimp only
    split
    · omega
    · split
      · rename_i h; exact h.2
      · omega
theorem read_acc : ∀ (l : List Int) (s : Int) (acc : Nat), acc &&& readA cls rows ends s acc l = acc
  | [], s, acc => by simp [readA]
  | g :: gs, s, acc => by
    rw [readA]
    split
    · simp
    · have h := read_acc gs (stepA cls rows s g) (acc ||| bitsA ends (stepA cls rows s g))
      apply Nat.eq_of_testBit_eq
      intro i
      have hi := congrArg (fun n => n.testBit i) h
      simp only [Nat.testBit_and, Nat.testBit_or] at hi ⊢
      cases h1 : acc.testBit i with
      | false => simp
      | true => rw [h1] at hi; simp at hi; simp [hi]
/-- With more glyphs no rule less is told. -/
theorem read_more : ∀ (l m : List Int) (s : Int) (acc : Nat), readA cls rows ends s acc l &&& readA cls rows ends s acc (l ++ m) = readA cls rows ends s acc l
  | [], m, s, acc => by rw [List.nil_append, readA]; exact read_acc m s acc
  | g :: gs, m, s, acc => by
    rw [List.cons_append, readA, readA]
    split
    · simp
    · exact read_more gs m _ _
/-- A step more. -/
theorem read_lt : ∀ (l : List Int) (s : Int) (acc : Nat), acc < 2 ^ 64 → (∀ e ∈ ends, e < 2 ^ 64) → readA cls rows ends s acc l < 2 ^ 64
  | [], _, _, h, _ => h
  | g :: gs, s, acc, h, he => by
    rw [readA]
    split
    · exact h
    · refine read_lt gs _ _ (Nat.or_lt_two_pow h ?_) he
      unfold bitsA
      split
      · exact Nat.two_pow_pos 64
      · cases hh : ends[(stepA cls rows s g).toNat]? with
        | none => exact Nat.two_pow_pos 64
        | some e => exact he e (List.mem_of_getElem? hh)
end
theorem leastA_some {n i : Nat} (h : leastA n = some i) : i < 64 ∧ n.testBit i = true ∧ ∀ j < i, n.testBit j = false := by
  unfold leastA at h
  rw [List.find?_range_eq_some] at h
  exact ⟨by simpa using h.2.1, h.1, fun j hj => by simpa using h.2.2 j hj⟩
theorem leastA_none {n : Nat} (h : leastA n = none) (hn : n < 2 ^ 64) : n = 0 := by
  unfold leastA at h
  rw [List.find?_eq_none] at h
  apply Nat.eq_of_testBit_eq
  intro i
  rw [Nat.zero_testBit]
  by_cases hi : i < 64
  · simpa using h i (by simpa using hi)
  · exact Nat.testBit_lt_two_pow (Nat.lt_of_lt_of_le hn (Nat.pow_le_pow_right (by omega) (by omega)))

end Go.Proofs.YtgcmedkaadagmaaDoor
