/- Plain words: what rows of glyphs tell, of rules and of an automaton; when both tell the same; how that is found out. -/
import Derived.Test.YtgcmedkaadagmaaDoorAU3
namespace Go.Proofs.YtgcmedkaadagmaaDoor

/-- The bits of all states on a way. -/
def runB {σ : Type} (step : σ → Int → σ) (out : σ → Nat) : σ → List Int → Nat
  | s, [] => out s
  | s, g :: gs => out s ||| runB step out (step s g) gs
theorem runB_zero {σ : Type} {step : σ → Int → σ} {out : σ → Nat} {s : σ} (h0 : out s = 0) (h1 : ∀ g, step s g = s) : ∀ w, runB step out s w = 0
  | [] => h0
  | g :: w => by rw [runB, h0, h1 g, runB_zero h0 h1 w]; rfl
theorem runB_hom {σ τ : Type} {st : σ → Int → σ} {st' : τ → Int → τ} {out : σ → Nat} {out' : τ → Nat} (φ : σ → τ) (h : ∀ s g, φ (st s g) = st' (φ s) g) (ho : ∀ s, out s = out' (φ s)) : ∀ (w : List Int) (s : σ), runB st out s w = runB st' out' (φ s) w
  | [], s => ho s
  | g :: w, s => by rw [runB, runB, ho s, runB_hom φ h ho w (st s g), h s g]
theorem runB_bit {σ : Type} {step : σ → Int → σ} {out : σ → Nat} {s : σ} {g : Int} {w : List Int} {b : Nat} (h : (out s).testBit b = false) : (runB step out s (g :: w)).testBit b = (runB step out (step s g) w).testBit b := by
  rw [runB, Nat.testBit_or, h, Bool.false_or]

section
variable {cls : List Int} {rows : List (List Int)} {ends : List Nat}
theorem stepA_neg {s g : Int} (h : stepA cls rows s g < 0) : stepA cls rows s g = -1 := by
  unfold stepA at h ⊢
  split
  · rfl
  · rename_i h1
    rw [if_neg h1] at h
    dsimp only at h ⊢
    split
    · rfl
    · rename_i h2
      rw [if_neg h2] at h
      split
      · rename_i h3; rw [if_pos h3] at h; omega
      · rfl
theorem stepA_ended (g : Int) : stepA cls rows (-1) g = -1 := by
  unfold stepA; rw [if_pos (by omega)]
theorem bitsA_ended : bitsA ends (-1) = 0 := by unfold bitsA; rw [if_pos (by omega)]
theorem readA_run : ∀ (l : List Int) (s : Int) (acc : Nat), readA cls rows ends s (acc ||| bitsA ends s) l = acc ||| runB (stepA cls rows) (bitsA ends) s l
  | [], s, acc => rfl
  | g :: l, s, acc => by
    rw [readA, runB]
    split
    · rename_i h
      rw [stepA_neg h, runB_zero bitsA_ended stepA_ended, Nat.or_zero]
    · rw [readA_run l, Nat.or_assoc]
end
theorem foreA_run (a : Au) (l : List Int) : foreA a l = runB (stepA a.cls a.fore) (bitsA a.fe) 0 l := by
  have h := readA_run (cls := a.cls) (rows := a.fore) (ends := a.fe) l 0 0
  rw [Nat.zero_or, Nat.zero_or] at h
  exact h
theorem backA_run (a : Au) (l : List Int) : backA a l = runB (stepA a.cls a.back) (bitsA a.be) 0 l := by
  have h := readA_run (cls := a.cls) (rows := a.back) (ends := a.be) l 0 0
  rw [Nat.zero_or, Nat.zero_or] at h
  exact h

/-- The class of a glyph. -/
def clsAt (cls : List Int) (g : Int) : Int := cls.getD g.toNat 0
def stepP (rows : List (List (List Int))) (cls : List Int) (p : Nat × Nat) (g : Int) : Nat × Nat := behindP rows cls p (clsAt cls g)
def nxP (rows : List (List (List Int))) (cls : List Int) (p : Nat × Nat) (c : Nat) : Option (Nat × Nat) := if p.2 &&& nextM rows cls p.1 (c : Int) = 0 then none else some (p.1 + 1, p.2 &&& nextM rows cls p.1 (c : Int))
theorem behindP_nx (rows : List (List (List Int))) (cls : List Int) (p : Nat × Nat) (c : Nat) : behindP rows cls p (c : Int) = (nxP rows cls p c).getD (0, 0) := by
  unfold behindP nxP; split <;> rfl
theorem behindP_dead (rows : List (List (List Int))) (cls : List Int) (c : Int) (m : Nat) : behindP rows cls (m, 0) c = (0, 0) := by
  unfold behindP; simp
theorem endsP_dead (rows : List (List (List Int))) (m : Nat) : endsP rows (m, 0) = 0 := by unfold endsP; simp
theorem stepP_dead (rows : List (List (List Int))) (cls : List Int) (g : Int) : stepP rows cls (0, 0) g = (0, 0) := behindP_dead _ _ _ _
theorem nxP_some {rows : List (List (List Int))} {cls : List Int} {p q : Nat × Nat} {c : Nat} (h : nxP rows cls p c = some q) : q.1 = p.1 + 1 ∧ q.2 ≠ 0 ∧ q.2 = p.2 &&& nextM rows cls p.1 (c : Int) ∧ behindP rows cls p (c : Int) = q := by
  rw [behindP_nx, h]
  unfold nxP at h
  split at h
  · cases h
  · rename_i hn; injection h with h; subst h; exact ⟨rfl, hn, rfl, rfl⟩
/-- Glyphs of the font. -/
def GlyOK (cls : List Int) (K : Nat) : Prop := ∀ (i : Nat) (c : Int), cls[i]? = some c → 0 ≤ c ∧ c < (K : Int)

section
variable {rows : List (List (List Int))} {cls : List Int} {K : Nat} {p0 : Nat × Nat} {met : List (Nat × Nat)} {tab : List (List Int)} {n : Nat}
theorem cls_at (hG : GlyOK cls K) {g : Int} (h0 : 0 ≤ g) (h1 : g < (cls.length : Int)) : ∃ c : Nat, clsAt cls g = (c : Int) ∧ c < K ∧ isCls cls g (c : Int) = true := by
  obtain ⟨i, rfl⟩ : ∃ i : Nat, g = (i : Int) := ⟨g.toNat, by omega⟩
  have hi : i < cls.length := by omega
  have e : cls[i]? = some (cls.getD i 0) := by rw [List.getD_eq_getElem?_getD, List.getElem?_eq_getElem hi]; rfl
  obtain ⟨a1, a2⟩ := hG i _ e
  refine ⟨(cls.getD i 0).toNat, ?_, by omega, ?_⟩
  · unfold clsAt; rw [Int.toNat_natCast]; omega
  · unfold isCls; rw [Int.toNat_natCast, Int.toNat_of_nonneg a1]; simp [hi]
/-- What was built steps as the rules do. -/
theorem built_step (hst : StOK (nxP rows cls) K p0 met.length met tab) (hG : GlyOK cls K) {g : Int} (h0 : 0 ≤ g) (h1 : g < (cls.length : Int)) {i : Nat} {p : Nat × Nat} (hp : met[i]? = some p) :
    (stepP rows cls p g = (0, 0) ∧ stepA cls tab (i : Int) g = -1) ∨ ∃ j : Nat, met[j]? = some (stepP rows cls p g) ∧ stepA cls tab (i : Int) g = (j : Int) := by
  obtain ⟨c, hc, hck, _⟩ := cls_at hG h0 h1
  have hi := (List.getElem?_eq_some_iff.1 hp).1
  have hlen := hst.len
  have hit : i < tab.length := by omega
  obtain ⟨hrl, hrs⟩ := hst.all i p tab[i] hp (List.getElem?_eq_getElem hit)
  have hcc : cls.getD g.toNat 0 = (c : Int) := hc
  have hrow : tab.getD ((i : Int)).toNat [] = tab[i] := by rw [Int.toNat_natCast, List.getD_eq_getElem?_getD, List.getElem?_eq_getElem hit]; rfl
  have hs : stepA cls tab (i : Int) g = if 0 ≤ (tab[i]).getD c 0 ∧ (tab[i]).getD c 0 < (tab.length : Int) then (tab[i]).getD c 0 else -1 := by
    unfold stepA
    rw [if_neg (by omega)]
    dsimp only
    rw [hrow, hcc, if_neg (by omega), Int.toNat_natCast]
  have hb : stepP rows cls p g = (nxP rows cls p c).getD (0, 0) := by unfold stepP; rw [hc, behindP_nx]
  rw [hs, hb]
  rcases hrs c (by omega) with ⟨e1, e2⟩ | ⟨q, j, e1, e2, e3⟩
  · left
    rw [e1, List.getD_eq_getElem?_getD, e2]
    exact ⟨rfl, by simp⟩
  · right
    have hj := (List.getElem?_eq_some_iff.1 e2).1
    rw [e1, List.getD_eq_getElem?_getD, e3]
    refine ⟨j, e2, ?_⟩
    rw [Option.getD_some, if_pos (by omega)]
theorem built_run (hst : StOK (nxP rows cls) K p0 met.length met tab) (hG : GlyOK cls K) : ∀ (w : List Int), (∀ g ∈ w, 0 ≤ g ∧ g < (cls.length : Int)) → ∀ (i : Nat) (p : Nat × Nat), met[i]? = some p →
    runB (stepA cls tab) (bitsA (met.map (endsP rows))) (i : Int) w = runB (stepP rows cls) (endsP rows) p w := by
  have hbit : ∀ (i : Nat) (p : Nat × Nat), met[i]? = some p → bitsA (met.map (endsP rows)) (i : Int) = endsP rows p := fun i p hp => by
    unfold bitsA; rw [if_neg (by omega), Int.toNat_natCast, List.getElem?_map, hp]; rfl
  intro w
  induction w with
  | nil => intro _ i p hp; exact hbit i p hp
  | cons g w ih =>
    intro hw i p hp
    obtain ⟨h0, h1⟩ := hw g (List.mem_cons_self ..)
    rw [runB, runB, hbit i p hp]
    congr 1
    rcases built_step hst hG h0 h1 hp with ⟨e1, e2⟩ | ⟨j, e1, e2⟩
    · rw [e1, e2, runB_zero bitsA_ended stepA_ended, runB_zero (endsP_dead rows 0) (stepP_dead rows cls)]
    · rw [e2]; exact ih (fun x hx => hw x (List.mem_cons_of_mem _ hx)) j _ e1
end

/-- Does a row of glyphs begin with a row of sets? -/
def beginsB : List (List Int) → List Int → Bool
  | [], _ => true
  | _ :: _, [] => false
  | s :: r, g :: w => s.contains g && beginsB r w
section
variable {rows : List (List (List Int))} {cls : List Int} {K : Nat}
theorem nextM_bit (hC : ClsOK rows cls) {g : Int} {c : Int} (hg : isCls cls g c = true) (m n : Nat) : (nextM rows cls m c).testBit n = (decide (n < rows.length) && (decide (m < (rows.getD n []).length) && ((rows.getD n []).getD m []).contains g)) := by
  unfold nextM
  rw [bitsOf_bit]
  by_cases hn : n < rows.length
  · simp only [hn, decide_true, Bool.true_and]
    by_cases hm : m < (rows.getD n []).length
    · simp only [hm, decide_true, Bool.true_and]
      refine any_cls hC hg (row := rows.getD n []) ?_ ?_
      · rw [List.getD_eq_getElem?_getD, List.getElem?_eq_getElem hn]; exact List.getElem_mem hn
      · rw [List.getD_eq_getElem?_getD (l := rows.getD n []), List.getElem?_eq_getElem hm]; exact List.getElem_mem hm
    · simp only [hm, decide_false, Bool.false_and]
  · simp [hn]
theorem endsM_bit (m n : Nat) : (endsM rows m).testBit n = (decide (n < rows.length) && ((rows.getD n []).length == m)) := by
  unfold endsM; rw [bitsOf_bit]
/-- What is told, rule by rule. -/
theorem told_begins (hC : ClsOK rows cls) (hG : GlyOK cls K) : ∀ (w : List Int), (∀ g ∈ w, 0 ≤ g ∧ g < (cls.length : Int)) → ∀ (m mask n : Nat), (mask.testBit n = true → n < rows.length ∧ m ≤ (rows.getD n []).length) →
    (runB (stepP rows cls) (endsP rows) (m, mask) w).testBit n = (mask.testBit n && beginsB ((rows.getD n []).drop m) w) := by
  intro w
  induction w with
  | nil =>
    intro _ m mask n hm
    rw [runB]
    unfold endsP
    rw [Nat.testBit_and, endsM_bit]
    cases hb : mask.testBit n with
    | false => simp
    | true =>
      obtain ⟨h1, h2⟩ := hm hb
      simp only [h1, decide_true, Bool.true_and]
      by_cases e : (rows.getD n []).length = m
      · rw [List.drop_eq_nil_of_le (by omega), beginsB, e]; simp
      · rw [List.drop_eq_getElem_cons (by omega), beginsB, beq_false_of_ne e]
  | cons g w ih =>
    intro hw m mask n hm
    obtain ⟨h0, h1⟩ := hw g (List.mem_cons_self ..)
    obtain ⟨c, hc, hck, hcc⟩ := cls_at hG h0 h1
    have hstep : stepP rows cls (m, mask) g = if mask &&& nextM rows cls m (c : Int) = 0 then (0, 0) else (m + 1, mask &&& nextM rows cls m (c : Int)) := by
      unfold stepP; rw [hc]; rfl
    rw [runB, Nat.testBit_or, hstep]
    have hnb := nextM_bit hC hcc m n
    have hrest : (runB (stepP rows cls) (endsP rows) (if mask &&& nextM rows cls m (c : Int) = 0 then (0, 0) else (m + 1, mask &&& nextM rows cls m (c : Int))) w).testBit n = (mask.testBit n && ((nextM rows cls m (c : Int)).testBit n && beginsB ((rows.getD n []).drop (m + 1)) w)) := by
      split
      · rename_i h
        rw [runB_zero (endsP_dead rows 0) (stepP_dead rows cls), Nat.zero_testBit, ← Bool.and_assoc, ← Nat.testBit_and, h, Nat.zero_testBit, Bool.false_and]
      · rw [ih (fun x hx => hw x (List.mem_cons_of_mem _ hx)) (m + 1) _ n (fun hb => ?_), Nat.testBit_and, Bool.and_assoc]
        rw [Nat.testBit_and, hnb] at hb
        simp only [Bool.and_eq_true, decide_eq_true_eq] at hb
        exact ⟨hb.2.1, hb.2.2.1⟩
    rw [hrest]
    unfold endsP
    rw [Nat.testBit_and, endsM_bit, hnb]
    cases hb : mask.testBit n with
    | false => simp
    | true =>
      obtain ⟨h1, h2⟩ := hm hb
      simp only [h1, decide_true, Bool.true_and]
      by_cases e : (rows.getD n []).length = m
      · rw [List.drop_eq_nil_of_le (show (rows.getD n []).length ≤ m by omega), beginsB, e, BEq.rfl, Bool.true_or]
      · rw [List.drop_eq_getElem_cons (show m < (rows.getD n []).length by omega), beginsB]
        have e2 : (rows.getD n []).getD m [] = (rows.getD n [])[m]'(by omega) := by rw [List.getD_eq_getElem?_getD (l := rows.getD n []), List.getElem?_eq_getElem (by omega)]; rfl
        rw [e2, beq_false_of_ne e, Bool.false_or, decide_eq_true (show m < (rows.getD n []).length by omega), Bool.true_and]
end

/-- a without b's bits. -/
def andn (a b : Nat) : Nat := a ^^^ (a &&& b)
theorem andn_bit (a b i : Nat) : (andn a b).testBit i = (a.testBit i && !b.testBit i) := by
  unfold andn; rw [Nat.testBit_xor, Nat.testBit_and]; cases a.testBit i <;> cases b.testBit i <;> rfl
theorem and_lt_left {a n : Nat} (b : Nat) (h : a < 2 ^ n) : a &&& b < 2 ^ n := Nat.lt_of_le_of_lt Nat.and_le_left h
theorem andn_lt {a n : Nat} (b : Nat) (h : a < 2 ^ n) : andn a b < 2 ^ n := Nat.xor_lt_two_pow h (and_lt_left b h)
theorem bit_ne_zero {a b : Nat} (h : a.testBit b = true) : a ≠ 0 := fun e => by rw [e, Nat.zero_testBit] at h; cases h
theorem ne_zero_bit {a : Nat} (h : a ≠ 0) : ∃ b, a.testBit b = true := by
  refine Classical.byContradiction fun hn => h ?_
  apply Nat.eq_of_testBit_eq
  intro i
  rw [Nat.zero_testBit]
  cases hb : a.testBit i with
  | false => rfl
  | true => exact absurd ⟨i, hb⟩ hn
theorem bit_lt {a n b : Nat} (h : a < 2 ^ n) (hb : a.testBit b = true) : b < n := by
  rcases Nat.lt_or_ge b n with hl | hl
  · exact hl
  · rw [Nat.testBit_lt_two_pow (Nat.lt_of_lt_of_le h (Nat.pow_le_pow_right (by omega) hl))] at hb; cases hb

/-- How many of the first k bits are missing. -/
def lacks (n : Nat) : Nat → Nat
  | 0 => 0
  | k + 1 => lacks n k + if n.testBit k then 0 else 1
theorem lacks_le (n : Nat) : ∀ k, lacks n k ≤ k
  | 0 => Nat.le_refl _
  | k + 1 => by have := lacks_le n k; rw [lacks]; split <;> omega
theorem lacks_or (n m : Nat) : ∀ k, lacks (n ||| m) k ≤ lacks n k
  | 0 => Nat.le_refl _
  | k + 1 => by
    have := lacks_or n m k
    rw [lacks, lacks, Nat.testBit_or]
    cases n.testBit k <;> cases m.testBit k <;> simp <;> omega
theorem lacks_new {n m b : Nat} (h1 : n.testBit b = false) (h2 : m.testBit b = true) : ∀ k, b < k → lacks (n ||| m) k + 1 ≤ lacks n k
  | 0, h => absurd h (by omega)
  | k + 1, h => by
    rw [lacks, lacks, Nat.testBit_or]
    by_cases e : b = k
    · subst e
      have := lacks_or n m b
      rw [h1, h2]; simp; omega
    · have := lacks_new h1 h2 k (by omega)
      cases n.testBit k <;> cases m.testBit k <;> simp <;> omega

section
variable {σ : Type} (step : σ → Int → σ) (due bit : σ → Nat) (dead : σ → Bool) (gs : List Int)
/-- Both tell the same, whatever comes. -/
def Agr (x : σ) : Prop := ∀ w, (∀ g ∈ w, g ∈ gs) → runB step due x w = runB step bit x w
/-- A bit that they tell apart on some way. -/
def Dv (b : Nat) (x : σ) : Prop := ∃ w, (∀ g ∈ w, g ∈ gs) ∧ (runB step due x w).testBit b ≠ (runB step bit x w).testBit b
variable {step due bit dead gs}
theorem Dv.not {b : Nat} {x : σ} (h : Dv step due bit gs b x) : ¬ Agr step due bit gs x := fun ha => by
  obtain ⟨w, hw, hne⟩ := h
  rw [ha w hw] at hne
  exact hne rfl
theorem Dv.back {b : Nat} {x : σ} {g : Int} (hg : g ∈ gs) (h1 : (due x).testBit b = false) (h2 : (bit x).testBit b = false) (h : Dv step due bit gs b (step x g)) : Dv step due bit gs b x := by
  obtain ⟨w, hw, hne⟩ := h
  refine ⟨g :: w, fun y hy => ?_, ?_⟩
  · rcases List.mem_cons.1 hy with rfl | hy
    · exact hg
    · exact hw y hy
  · rw [runB_bit h1, runB_bit h2]; exact hne
/-- Nothing is wrong at a state with a bit, so far. -/
def Okk (due bit : σ → Nat) (dead : σ → Bool) (f : σ → Nat) (b : Nat) (y : σ) : Prop := (due y).testBit b = (bit y).testBit b ∧ ((due y).testBit b = true ∨ (f y).testBit b = true ∨ dead y = true)
/-- In the midst: what is open of each state, what is yet to be gone on with, and what is gone on with now: from which state, with which bits, by which glyphs yet. -/
structure AgI (step : σ → Int → σ) (due bit : σ → Nat) (dead : σ → Bool) (gs : List Int) (x0 : σ) (f : σ → Nat) (todo : List (σ × Nat)) (cur : σ × Nat) (rest : List Int) : Prop where
  a : ∀ x b, (f x).testBit b = true → (due x).testBit b = false ∧ (bit x).testBit b = false ∧ (Dv step due bit gs b x → Dv step due bit gs b x0)
  b : ∀ x b g, (f x).testBit b = true → g ∈ gs → (∃ m, (x, m) ∈ todo ∧ m.testBit b = true) ∨ (x = cur.1 ∧ cur.2.testBit b = true ∧ g ∈ rest) ∨ Okk due bit dead f b (step x g)
  c : ∀ b, b < 64 → Okk due bit dead f b x0
  d : ∀ x m b, (x, m) ∈ todo → m.testBit b = true → (f x).testBit b = true
  e : ∀ b, cur.2.testBit b = true → rest ≠ [] → (f cur.1).testBit b = true
theorem okk_more {f f' : σ → Nat} (h : ∀ z b, (f z).testBit b = true → (f' z).testBit b = true) {b : Nat} {y : σ} (ho : Okk due bit dead f b y) : Okk due bit dead f' b y :=
  ⟨ho.1, ho.2.imp id (Or.imp (h y b) id)⟩
/-- All is done: they agree. -/
theorem AgI.done (hdead : ∀ x, dead x = true → ∀ w, runB step due x w = 0 ∧ runB step bit x w = 0) (hlt : ∀ x, due x < 2 ^ 64 ∧ bit x < 2 ^ 64) {x0 : σ} {f : σ → Nat} {cur : σ × Nat} (h : AgI step due bit dead gs x0 f [] cur []) : Agr step due bit gs x0 := by
  have key : ∀ (w : List Int), (∀ g ∈ w, g ∈ gs) → ∀ (x : σ) (b : Nat), Okk due bit dead f b x → (runB step due x w).testBit b = (runB step bit x w).testBit b := by
    intro w
    induction w with
    | nil => exact fun _ x b ho => ho.1
    | cons g w ih =>
      intro hw x b ho
      cases hb : (due x).testBit b with
      | true =>
        have h2 := ho.1
        rw [hb] at h2
        rw [runB, runB, Nat.testBit_or, Nat.testBit_or, hb, ← h2, Bool.true_or, Bool.true_or]
      | false =>
        have h2 := ho.1
        rw [hb] at h2
        rw [runB_bit hb, runB_bit h2.symm]
        rcases ho.2 with h3 | h3 | h3
        · rw [hb] at h3; cases h3
        · rcases h.b x b g h3 (hw g (List.mem_cons_self ..)) with ⟨m, hm, _⟩ | ⟨_, _, hm⟩ | h4
          · cases hm
          · cases hm
          · exact ih (fun y hy => hw y (List.mem_cons_of_mem _ hy)) _ b h4
        · obtain ⟨e1, e2⟩ := hdead x h3 (g :: w)
          rw [← runB_bit hb, ← runB_bit h2.symm, e1, e2]
  intro w hw
  apply Nat.eq_of_testBit_eq
  intro b
  by_cases hb : b < 64
  · exact key w hw x0 b (h.c b hb)
  · have big : ∀ (out : σ → Nat), (∀ x, out x < 2 ^ 64) → ∀ (w : List Int) (x : σ), (runB step out x w).testBit b = false := fun out ho w => by
      have one : ∀ x, (out x).testBit b = false := fun x => Nat.testBit_lt_two_pow (Nat.lt_of_lt_of_le (ho x) (Nat.pow_le_pow_right (by omega) (by omega)))
      induction w with
      | nil => exact one
      | cons g w ih => intro x; rw [runB_bit (one x)]; exact ih _
    rw [big due (fun x => (hlt x).1), big bit (fun x => (hlt x).2)]
def upd [DecidableEq σ] (f : σ → Nat) (y : σ) (m : Nat) : σ → Nat := fun z => if z = y then f y ||| m else f z
theorem upd_more [DecidableEq σ] (f : σ → Nat) (y : σ) (m : Nat) (z : σ) (b : Nat) (h : (f z).testBit b = true) : (upd f y m z).testBit b = true := by
  unfold upd
  split
  · rename_i e; subst e; rw [Nat.testBit_or, h, Bool.true_or]
  · exact h
/-- The bits that are new at a state. -/
def freshB (due f : σ → Nat) (y : σ) (m : Nat) : Nat := andn (andn m (due y)) (f y)
theorem okk_meet [DecidableEq σ] {f : σ → Nat} {y : σ} {m b : Nat} (hno : (due y ^^^ bit y) &&& m = 0) (hb : m.testBit b = true) : Okk due bit dead (upd f y (freshB due f y m)) b y := by
  have h1 : (due y).testBit b = (bit y).testBit b := by
    have := congrArg (fun n => n.testBit b) hno
    simp only [Nat.testBit_and, Nat.testBit_xor, hb, Bool.and_true, Nat.zero_testBit] at this
    cases h1 : (due y).testBit b <;> cases h2 : (bit y).testBit b <;> simp_all
  refine ⟨h1, ?_⟩
  cases h2 : (due y).testBit b with
  | true => exact .inl rfl
  | false =>
    right; left
    unfold upd
    rw [if_pos rfl, Nat.testBit_or]
    unfold freshB
    rw [andn_bit, andn_bit, hb, h2]
    cases (f y).testBit b <;> rfl
theorem okk_skip [DecidableEq σ] {f : σ → Nat} {y : σ} {m b : Nat} (hno : (due y ^^^ bit y) &&& m = 0) (hb : m.testBit b = true) (hs : freshB due f y m = 0 ∨ dead y = true) : Okk due bit dead f b y := by
  have h := okk_meet (dead := dead) (f := f) hno hb
  refine ⟨h.1, ?_⟩
  rcases h.2 with h2 | h2 | h2
  · exact .inl h2
  · rcases hs with hs | hs
    · right; left
      rw [hs] at h2
      unfold upd at h2
      rw [if_pos rfl, Nat.or_zero] at h2
      exact h2
    · exact .inr (.inr hs)
  · exact .inr (.inr h2)
variable {x0 : σ} {f : σ → Nat} {todo : List (σ × Nat)} {cur : σ × Nat} {g : Int} {rest : List Int}
/-- What is met tells that they part. -/
theorem AgI.bad (h : AgI step due bit dead gs x0 f todo cur (g :: rest)) (hg : g ∈ gs) (hb : (due (step cur.1 g) ^^^ bit (step cur.1 g)) &&& cur.2 ≠ 0) : ¬ Agr step due bit gs x0 := by
  obtain ⟨b, hb⟩ := ne_zero_bit hb
  rw [Nat.testBit_and, Nat.testBit_xor, Bool.and_eq_true] at hb
  obtain ⟨h1, h2⟩ := hb
  obtain ⟨a1, a2, a3⟩ := h.a cur.1 b (h.e b h2 (by simp))
  refine (a3 (Dv.back hg a1 a2 ⟨[], (by simp), ?_⟩)).not
  rw [runB, runB]
  intro e
  rw [e] at h1; simp at h1
/-- Nothing new is met. -/
theorem AgI.skip [DecidableEq σ] (h : AgI step due bit dead gs x0 f todo cur (g :: rest)) (hno : (due (step cur.1 g) ^^^ bit (step cur.1 g)) &&& cur.2 = 0) (hs : freshB due f (step cur.1 g) cur.2 = 0 ∨ dead (step cur.1 g) = true) : AgI step due bit dead gs x0 f todo cur rest := by
  refine ⟨h.a, fun x b k hx hk => ?_, h.c, h.d, fun b hb _ => h.e b hb (by simp)⟩
  rcases h.b x b k hx hk with h1 | ⟨h1, h2, h3⟩ | h1
  · exact .inl h1
  · rcases List.mem_cons.1 h3 with e | h3
    · right; right
      subst e; rw [h1]
      exact okk_skip hno h2 hs
    · exact .inr (.inl ⟨h1, h2, h3⟩)
  · exact .inr (.inr h1)
/-- Something new is met. -/
theorem AgI.push [DecidableEq σ] (h : AgI step due bit dead gs x0 f todo cur (g :: rest)) (hg : g ∈ gs) (hno : (due (step cur.1 g) ^^^ bit (step cur.1 g)) &&& cur.2 = 0) :
    AgI step due bit dead gs x0 (upd f (step cur.1 g) (freshB due f (step cur.1 g) cur.2)) (todo ++ [(step cur.1 g, freshB due f (step cur.1 g) cur.2)]) cur rest := by
  have up := upd_more f (step cur.1 g) (freshB due f (step cur.1 g) cur.2)
  refine ⟨fun x b hx => ?_, fun x b k hx hk => ?_, fun b hb => okk_more up (h.c b hb), fun x m b hx hb => ?_, fun b hb _ => up _ _ (h.e b hb (by simp))⟩
  · by_cases ho : (f x).testBit b = true
    · exact h.a x b ho
    · have e : x = step cur.1 g := by
        refine Classical.byContradiction fun e => ho ?_
        unfold upd at hx; rw [if_neg e] at hx; exact hx
      subst e
      unfold upd at hx
      rw [if_pos rfl, Nat.testBit_or, Bool.or_eq_true] at hx
      have hx := hx.resolve_left ho
      unfold freshB at hx
      rw [andn_bit, andn_bit] at hx
      simp only [Bool.and_eq_true, Bool.not_eq_true'] at hx
      obtain ⟨⟨m1, m2⟩, _⟩ := hx
      have ok := okk_meet (dead := dead) (f := f) hno m1
      obtain ⟨a1, a2, a3⟩ := h.a cur.1 b (h.e b m1 (by simp))
      exact ⟨m2, by rw [← ok.1]; exact m2, fun hd => a3 (Dv.back hg a1 a2 hd)⟩
  · by_cases ho : (f x).testBit b = true
    · rcases h.b x b k ho hk with ⟨m, h1, h2⟩ | ⟨h1, h2, h3⟩ | h1
      · exact .inl ⟨m, List.mem_append_left _ h1, h2⟩
      · rcases List.mem_cons.1 h3 with e | h3
        · right; right
          subst e; rw [h1]
          exact okk_meet hno h2
        · exact .inr (.inl ⟨h1, h2, h3⟩)
      · exact .inr (.inr (okk_more up h1))
    · left
      have e : x = step cur.1 g := by
        refine Classical.byContradiction fun e => ho ?_
        unfold upd at hx; rw [if_neg e] at hx; exact hx
      subst e
      refine ⟨_, List.mem_append_right _ (List.mem_singleton.2 rfl), ?_⟩
      unfold upd at hx
      rw [if_pos rfl, Nat.testBit_or, Bool.or_eq_true] at hx
      exact hx.resolve_left ho
  · rcases List.mem_append.1 hx with hx | hx
    · exact up _ _ (h.d x m b hx hb)
    · rw [List.mem_singleton] at hx
      injection hx with e1 e2
      subst e1; subst e2
      unfold upd
      rw [if_pos rfl, Nat.testBit_or, hb, Bool.or_true]
/-- The last one is gone on with. -/
theorem AgI.pop {cur' : σ × Nat} (h : AgI step due bit dead gs x0 f (todo ++ [cur']) cur []) : AgI step due bit dead gs x0 f todo cur' gs := by
  refine ⟨h.a, fun x b k hx hk => ?_, h.c, fun x m b hx hb => h.d x m b (List.mem_append_left _ hx) hb, fun b hb _ => h.d cur'.1 cur'.2 b (List.mem_append_right _ (List.mem_singleton.2 rfl)) hb⟩
  rcases h.b x b k hx hk with ⟨m, h1, h2⟩ | ⟨_, _, h3⟩ | h1
  · rcases List.mem_append.1 h1 with h1 | h1
    · exact .inl ⟨m, h1, h2⟩
    · rw [List.mem_singleton] at h1
      subst h1
      exact .inr (.inl ⟨rfl, h2, hk⟩)
  · cases h3
  · exact .inr (.inr h1)
/-- The beginning. -/
theorem agr_bad0 (hb : (due x0 ^^^ bit x0) &&& (2 ^ 64 - 1) ≠ 0) : ¬ Agr step due bit gs x0 := fun ha => by
  have h := ha [] (by simp)
  rw [runB, runB] at h
  rw [h, Nat.xor_self, Nat.zero_and] at hb
  exact hb rfl
theorem bit_all {b : Nat} (h : b < 64) : (2 ^ 64 - 1).testBit b = true := by rw [Nat.testBit_two_pow_sub_one]; simpa using h
theorem AgI.start0 [DecidableEq σ] (cur : σ × Nat) (hno : (due x0 ^^^ bit x0) &&& (2 ^ 64 - 1) = 0) (hs : freshB due (fun _ => 0) x0 (2 ^ 64 - 1) = 0 ∨ dead x0 = true) : AgI step due bit dead gs x0 (fun _ => 0) [] cur [] :=
  ⟨fun x b h => by simp at h, fun x b g h => by simp at h, fun b hb => okk_skip hno (bit_all hb) hs, (fun x m b h => by cases h), fun b _ h => absurd rfl h⟩
theorem AgI.start1 [DecidableEq σ] (cur : σ × Nat) (hno : (due x0 ^^^ bit x0) &&& (2 ^ 64 - 1) = 0) : AgI step due bit dead gs x0 (upd (fun _ => 0) x0 (freshB due (fun _ => 0) x0 (2 ^ 64 - 1))) [(x0, freshB due (fun _ => 0) x0 (2 ^ 64 - 1))] cur [] := by
  have key : ∀ x b, (upd (fun _ => 0) x0 (freshB due (fun _ => 0) x0 (2 ^ 64 - 1)) x).testBit b = true → x = x0 ∧ (freshB due (fun _ => 0) x0 (2 ^ 64 - 1)).testBit b = true := fun x b h => by
    unfold upd at h
    split at h
    · rename_i e; rw [Nat.zero_or] at h; exact ⟨e, h⟩
    · simp at h
  refine ⟨fun x b h => ?_, fun x b g h _ => ?_, fun b hb => okk_meet hno (bit_all hb), fun x m b h hb => ?_, fun b _ h => absurd rfl h⟩
  · obtain ⟨rfl, hb⟩ := key x b h
    unfold freshB at hb
    rw [andn_bit, andn_bit] at hb
    simp only [Bool.and_eq_true, Bool.not_eq_true'] at hb
    have ok := okk_meet (dead := dead) (f := fun _ => 0) hno hb.1.1
    exact ⟨hb.1.2, by rw [← ok.1]; exact hb.1.2, id⟩
  · obtain ⟨rfl, hb⟩ := key x b h
    exact .inl ⟨_, List.mem_singleton.2 rfl, hb⟩
  · rw [List.mem_singleton] at h
    injection h with e1 e2
    subst e1; subst e2
    unfold upd
    rw [if_pos rfl, Nat.zero_or]; exact hb

/-- The measure: what is not open yet, twice, and how much is to be done. -/
def lackS (f : σ → Nat) (L : List σ) : Nat := (L.map fun z => lacks (f z) 64).sum
theorem lackS_le (f : σ → Nat) : ∀ L : List σ, lackS f L ≤ 64 * L.length
  | [] => Nat.le_refl _
  | z :: L => by
    have h1 := lackS_le f L
    have h2 := lacks_le (f z) 64
    unfold lackS at h1 ⊢
    simp; omega
theorem lackS_upd_le [DecidableEq σ] (f : σ → Nat) (y : σ) (m : Nat) : ∀ L : List σ, lackS (upd f y m) L ≤ lackS f L
  | [] => Nat.le_refl _
  | z :: L => by
    have h1 := lackS_upd_le f y m L
    unfold lackS at h1 ⊢
    rw [List.map_cons, List.map_cons, List.sum_cons, List.sum_cons]
    have h2 : lacks (upd f y m z) 64 ≤ lacks (f z) 64 := by
      unfold upd; split
      · rename_i e; subst e; exact lacks_or _ _ _
      · exact Nat.le_refl _
    omega
theorem lackS_upd [DecidableEq σ] {f : σ → Nat} {y : σ} {m : Nat} (hm : andn m (f y) ≠ 0) (hlt : m < 2 ^ 64) : ∀ {L : List σ}, y ∈ L → lackS (upd f y m) L + 1 ≤ lackS f L
  | [], h => by cases h
  | z :: L, h => by
    have h0 := lackS_upd_le f y m L
    unfold lackS at h0 ⊢
    rw [List.map_cons, List.map_cons, List.sum_cons, List.sum_cons]
    by_cases e : z = y
    · subst e
      obtain ⟨b, hb⟩ := ne_zero_bit hm
      have hb64 := bit_lt (andn_lt (f z) hlt) hb
      rw [andn_bit] at hb
      simp only [Bool.and_eq_true, Bool.not_eq_true'] at hb
      have h2 : lacks (upd f z m z) 64 + 1 ≤ lacks (f z) 64 := by
        unfold upd; rw [if_pos rfl]; exact lacks_new hb.2 hb.1 64 hb64
      omega
    · have h2 := lackS_upd hm hlt (L := L) (by rcases List.mem_cons.1 h with h | h; exact absurd h.symm e; exact h)
      have h3 : upd f y m z = f z := by unfold upd; rw [if_neg e]
      unfold lackS at h2
      rw [h3]; omega
theorem fresh_again (due f : σ → Nat) (y : σ) (m : Nat) : andn (freshB due f y m) (f y) = freshB due f y m := by
  apply Nat.eq_of_testBit_eq
  intro i
  unfold freshB
  simp only [andn_bit]
  cases (f y).testBit i <;> simp
end

end Go.Proofs.YtgcmedkaadagmaaDoor
