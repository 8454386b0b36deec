/- Plain words: fonts, lookups, runs, and what lookups do with runs, by definition on lists. -/
namespace Go.Proofs.YtgcmedkaadagmaaDoor

structure Itm where
  g : Int
  c : Int
  f : Int
  a : Int
  x : Int
  y : Int
  deriving DecidableEq, Inhabited
structure Rul where
  back : List (List Int)
  inn : List (List Int)
  ahead : List (List Int)
  out : List Int
  calls : List (Int × Int)
  x : Int
  deriving Inhabited
structure Lk where
  kind : Int
  ign : Bool
  rules : List Rul
  deriving Inhabited
structure Anc where
  k : Int
  c : Int
  x : Int
  y : Int
  deriving Inhabited
structure Gly where
  mark : Bool
  anc : List Anc
  deriving Inhabited
structure Fnt where
  gly : List Gly
  lks : List Lk
  deriving Inhabited

def isMark (F : Fnt) (g : Int) : Bool := decide (0 ≤ g) && ((F.gly[g.toNat]?).map (·.mark)).getD false
def gAt (run : List Itm) (i : Nat) : Int := ((run[i]?).map (·.g)).getD 0
def fAt (run : List Itm) (i : Nat) : Int := ((run[i]?).map (·.f)).getD 0
def cAt (run : List Itm) (i : Nat) : Int := ((run[i]?).map (·.c)).getD 0
/-- Is the item at a place seen? -/
def seenB (F : Fnt) (ign : Bool) (run : List Itm) (i : Nat) : Bool := !(ign && isMark F (gAt run i))
/-- The places from 'k' on, below 'n', of which s holds. -/
def upL (s : Nat → Bool) (n k : Nat) : List Nat := (List.range' k (n - k)).filter s
/-- The places ahead of 'k', the nearest one first. -/
def dnL (s : Nat → Bool) : Nat → List Nat
  | 0 => []
  | k + 1 => if s k then k :: dnL s k else dnL s k

theorem upL_end {s : Nat → Bool} {n k : Nat} (h : n ≤ k) : upL s n k = [] := by
  unfold upL; rw [Nat.sub_eq_zero_of_le h]; rfl
theorem upL_step {s : Nat → Bool} {n k : Nat} (h : k < n) : upL s n k = if s k then k :: upL s n (k + 1) else upL s n (k + 1) := by
  unfold upL
  obtain ⟨m, hm⟩ : ∃ m, n - k = m + 1 := ⟨n - k - 1, by omega⟩
  have e : n - (k + 1) = m := by omega
  rw [hm, e, List.range'_succ, List.filter_cons]
theorem upL_yes {s : Nat → Bool} {n k : Nat} (h : k < n) (hs : s k = true) : upL s n k = k :: upL s n (k + 1) := by rw [upL_step h, if_pos hs]
theorem upL_no {s : Nat → Bool} {n k : Nat} (h : k < n) (hs : s k = false) : upL s n k = upL s n (k + 1) := by rw [upL_step h, if_neg (by simp [hs])]
theorem dnL_yes {s : Nat → Bool} {k : Nat} (hs : s k = true) : dnL s (k + 1) = k :: dnL s k := by rw [dnL, if_pos hs]
theorem dnL_no {s : Nat → Bool} {k : Nat} (hs : s k = false) : dnL s (k + 1) = dnL s k := by rw [dnL, if_neg (by simp [hs])]
theorem upL_mem {s : Nat → Bool} {n k i : Nat} : i ∈ upL s n k ↔ k ≤ i ∧ i < n ∧ s i = true := by
  unfold upL; rw [List.mem_filter, List.mem_range'_1]; constructor
  · rintro ⟨⟨h1, h2⟩, h3⟩; exact ⟨h1, by omega, h3⟩
  · rintro ⟨h1, h2, h3⟩; exact ⟨⟨h1, by omega⟩, h3⟩
theorem dnL_mem {s : Nat → Bool} {k i : Nat} : i ∈ dnL s k ↔ i < k ∧ s i = true := by
  induction k with
  | zero => simp [dnL]
  | succ k ih =>
    by_cases h : s k = true
    · rw [dnL_yes h, List.mem_cons, ih]
      constructor
      · rintro (rfl | ⟨h1, h2⟩)
        · exact ⟨by omega, h⟩
        · exact ⟨by omega, h2⟩
      · rintro ⟨h1, h2⟩
        by_cases e : i = k
        · exact .inl e
        · exact .inr ⟨by omega, h2⟩
    · have h' : s k = false := by simpa using h
      rw [dnL_no h', ih]
      constructor
      · rintro ⟨h1, h2⟩; exact ⟨by omega, h2⟩
      · rintro ⟨h1, h2⟩
        refine ⟨?_, h2⟩
        by_cases e : i = k
        · subst e; rw [h2] at h'; cases h'
        · omega
theorem upL_len (s : Nat → Bool) (n k : Nat) : (upL s n k).length ≤ n - k := by
  unfold upL; exact Nat.le_trans (List.length_filter_le _ _) (by simp)
theorem dnL_len (s : Nat → Bool) (k : Nat) : (dnL s k).length ≤ k := by
  induction k with
  | zero => simp [dnL]
  | succ k ih =>
    unfold dnL; split
    · simp; omega
    · omega
theorem upL_sorted (s : Nat → Bool) (n k : Nat) : (upL s n k).Pairwise (· < ·) := by
  unfold upL; exact List.Pairwise.filter _ List.pairwise_lt_range'

/-- Are the items of the first places in the sets of the same numbers? -/
def inSets (run : List Itm) : List (List Int) → List Nat → Bool
  | [], _ => true
  | s :: ss, p :: ps => s.contains (gAt run p) && inSets run ss ps
  | _ :: _, [] => false
def fits (run : List Itm) (r : Rul) (fore back : List Nat) : Bool :=
  !r.inn.isEmpty && decide (r.inn.length + r.ahead.length ≤ fore.length) && decide (r.back.length ≤ back.length) &&
    (inSets run r.inn fore && (inSets run r.ahead (fore.drop r.inn.length) && inSets run r.back back))
def begL (F : Fnt) (ign : Bool) (run : List Itm) (k : Int) (forms : List Int) : Bool :=
  decide (0 ≤ k) && decide (k < run.length) && seenB F ign run k.toNat && (forms.isEmpty || forms.contains (fAt run k.toNat))
def foreL (F : Fnt) (ign : Bool) (run : List Itm) (k : Nat) : List Nat := upL (seenB F ign run) run.length k
def backL (F : Fnt) (ign : Bool) (run : List Itm) (k : Nat) : List Nat := dnL (seenB F ign run) k
/-- The first rule that fits, with its number. -/
def firstR (p : Rul → Bool) : List Rul → Nat → Option (Nat × Rul)
  | [], _ => none
  | r :: rs, n => if p r then some (n, r) else firstR p rs (n + 1)
def matchL (F : Fnt) (lk : Lk) (run : List Itm) (k : Int) (forms : List Int) : Option (Nat × List Nat) :=
  if begL F lk.ign run k forms then
    match firstR (fun r => fits run r (foreL F lk.ign run k.toNat) (backL F lk.ign run k.toNat)) lk.rules 0 with
    | some (n, r) => some (n, (foreL F lk.ign run k.toNat).take r.inn.length)
    | none => none
  else none

/-- The glyph that a rule has for one. -/
def otherL (r : Rul) (g : Int) : Option Int := ((r.inn.head?.getD []).idxOf? g).bind fun n => r.out[n]?
def setG (it : Itm) (g : Int) : Itm := { it with g := g }
def singleL (r : Rul) (k : Nat) (run : List Itm) : List Itm :=
  match otherL r (gAt run k) with
  | some g => run.modify k (setG · g)
  | none => run
def multL (k : Nat) (out : List Int) (run : List Itm) : List Itm :=
  if run.length < run.length - 1 + out.length ∧ 500 < run.length - 1 + out.length then run
  else run.take k ++ (out.map fun g => setG (run.getD k default) g) ++ run.drop (k + 1)
def joinL (places : List Nat) (g : Int) (run : List Itm) : List Itm :=
  match places with
  | [] => run
  | p :: ps =>
    let least := (p :: ps).foldl (fun m i => min m (cAt run i)) (cAt run p)
    ps.foldr (fun i r => r.eraseIdx i) (run.modify p fun it => { it with g := g, c := least })
def nthL (F : Fnt) (ign : Bool) (run : List Itm) (k : Nat) (n : Int) : Option Nat := if n < 0 then none else (upL (seenB F ign run) run.length k)[n.toNat]?
def lkAt (F : Fnt) (n : Int) : Option Lk := if n < 0 then none else F.lks[n.toNat]?
def pairL (w : Int → Int) (k : Nat) (x : Int) (run : List Itm) : List Itm := run.modify k fun it => { it with a := w (it.a + x) }
/-- What a rule does, where it matched at some places; calls go so deep yet. (w: how sums of numbers go around.) -/
def doL (w : Int → Int) (F : Fnt) : Nat → Lk → Rul → List Nat → List Itm → List Itm
  | d, lk, r, places, run =>
    let k := places.headD 0
    if lk.kind = 1 ∨ lk.kind = 5 then singleL r k run
    else if lk.kind = 2 then multL k r.out run
    else if lk.kind = 3 then (match r.out with | [] => run | g :: _ => joinL places g run)
    else if lk.kind = 4 then
      match d with
      | 0 => run
      | d + 1 => r.calls.foldl (fun run c =>
          match nthL F lk.ign run k c.1, lkAt F c.2 with
          | some p, some l =>
            if 1 ≤ l.kind ∧ l.kind ≤ 4 then
              match matchL F l run p [] with
              | some (n, ps) => doL w F d l (l.rules.getD n default) ps run
              | none => run
            else run
          | _, _ => run) run
    else if lk.kind = 6 then pairL w k r.x run
    else run
def nextL (lk : Lk) (places : List Nat) (k len len' : Nat) : Nat :=
  let last := places.getLastD 0
  let next : Int := (len' : Int) - ((len : Int) - 1 - last)
  if lk.kind = 4 then (max next (k + 1)).toNat
  else if lk.kind = 6 ∧ 1 < places.length then last
  else next.toNat
def onL (w : Int → Int) (F : Fnt) (lk : Lk) (forms : List Int) : Nat → List Itm → Nat → List Itm
  | 0, run, _ => run
  | fuel + 1, run, k =>
    if k < run.length then
      match matchL F lk run k forms with
      | none => onL w F lk forms fuel run (k + 1)
      | some (n, ps) =>
        let run' := doL w F 4 lk (lk.rules.getD n default) ps run
        onL w F lk forms fuel run' (nextL lk ps k run.length run'.length)
    else run
def bwL (w : Int → Int) (F : Fnt) (lk : Lk) (forms : List Int) : Nat → List Itm → List Itm
  | 0, run => run
  | k + 1, run =>
    bwL w F lk forms k (match matchL F lk run k forms with
      | none => run
      | some (n, ps) => doL w F 4 lk (lk.rules.getD n default) ps run)
def applyL (w : Int → Int) (F : Fnt) (n : Int) (run : List Itm) (forms : List Int) : List Itm :=
  match lkAt F n with
  | none => run
  | some lk =>
    if lk.kind < 1 ∨ 6 < lk.kind then run
    else if lk.kind = 5 then bwL w F lk forms run.length run
    else onL w F lk forms run.length run 0

end Go.Proofs.YtgcmedkaadagmaaDoor
