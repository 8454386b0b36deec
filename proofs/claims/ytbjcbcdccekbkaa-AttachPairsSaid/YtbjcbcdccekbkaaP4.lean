/- Plain laws: marks and cursive joins as the document has them are as attach has them. -/
import Derived.Test.YtbjcbcdccekbkaaP3
namespace Go.Proofs.Ytbjcbcdccekbkaa

/-- The anchors by which a mark hangs on an item. -/
def takenA (F : Fnt) (l : List Anc) (h : Int) : Option (Anc × Int × Int) := l.findSome? fun a => if a.k = 2 then (anchorL F h 1 a.c).map fun p => (a, p.1, p.2) else none
def takenL (F : Fnt) (g h : Int) : Option (Anc × Int × Int) := takenA F (ancOf F g) h
/-- The document's host. -/
def hostR (F : Fnt) (ign : Bool) (run : List Itm) (g : Int) : Nat → Option Nat
  | 0 => none
  | k + 1 => if (takenL F g (gAt run k)).isSome && !(isMark F (gAt run k) && ign) then some k else if isMark F (gAt run k) then hostR F ign run g k else none
def markR (w : Int → Int) (F : Fnt) (ign : Bool) (out : List Itm) (i : Nat) : List Itm :=
  if isMark F (gAt out i) then
    match hostR F ign out (gAt out i) i with
    | none => out
    | some k =>
      match takenL F (gAt out i) (gAt out k) with
      | none => out
      | some (m, hx, hy) => out.set i { itAt out i with a := 0, x := w (w (w (w (widthL w (out.take k) + (itAt out k).x) + hx) - widthL w (out.take i)) - m.x), y := w (w ((itAt out k).y + hy) - m.y) }
  else out
def marksR (w : Int → Int) (F : Fnt) (ign : Bool) (run : List Itm) : List Itm := (List.range run.length).foldl (markR w F ign) run

/-- The nearest base of a class ahead of a place. -/
def nearB (F : Fnt) (ign : Bool) (run : List Itm) (c : Int) : Nat → Option Bas
  | 0 => none
  | k + 1 => match (if isMark F (gAt run k) && ign then none else anchorL F (gAt run k) 1 c) with
    | some (x, y) => some ⟨k, x, y⟩
    | none => if isMark F (gAt run k) then nearB F ign run c k else none
theorem nearB_lt {F : Fnt} {ign : Bool} {run : List Itm} {c : Int} {n : Nat} {b : Bas} (h : nearB F ign run c n = some b) : 0 ≤ b.p ∧ b.p < n := by
  induction n with
  | zero => cases h
  | succ n ih =>
    rw [nearB] at h
    split at h
    · injection h with h; subst h; exact ⟨by show (0 : Int) ≤ (n : Int); omega, by show (n : Int) < _; omega⟩
    · split at h
      · have := ih h; omega
      · cases h
theorem nearB_congr {F : Fnt} {ign : Bool} {r s : List Itm} (c : Int) (n : Nat) (h : ∀ i, gAt r i = gAt s i) : nearB F ign r c n = nearB F ign s c n := by
  induction n with
  | zero => rfl
  | succ n ih => rw [nearB, nearB, h n, ih]
theorem hostR_congr {F : Fnt} {ign : Bool} {r s : List Itm} (g : Int) (n : Nat) (h : ∀ i, gAt r i = gAt s i) : hostR F ign r g n = hostR F ign s g n := by
  induction n with
  | zero => rfl
  | succ n ih => rw [hostR, hostR, h n, ih]

theorem ancFind_cons (a : Anc) (t : List Anc) (k c : Int) : ancFind (a :: t) k c = if a.k = k ∧ a.c = c then some (a.x, a.y) else ancFind t k c := by
  unfold ancFind
  by_cases hh : a.k = k ∧ a.c = c
  · rw [if_pos hh, List.find?_cons_of_pos (by simp [hh])]; rfl
  · rw [if_neg hh, List.find?_cons_of_neg (by simpa using hh)]
theorem offerL_at (anc : List Anc) (i : Nat) (bs : Int → Option Bas) (c : Int) : offerL anc i bs c =
    (match bs c with
      | some b => if b.p = (i : Int) then some b else (match ancFind anc 1 c with | some p => some ⟨i, p.1, p.2⟩ | none => some b)
      | none => (match ancFind anc 1 c with | some p => some ⟨i, p.1, p.2⟩ | none => none)) := by
  induction anc generalizing bs with
  | nil =>
    show bs c = _
    cases h : bs c with
    | none => rfl
    | some b => dsimp only; split <;> rfl
  | cons a t ih =>
    have e : offerL (a :: t) i bs = offerL t i (offer1 i bs a) := rfl
    rw [e, ih, ancFind_cons]
    unfold offer1
    by_cases hk : a.k = 1
    · rw [if_pos hk]
      by_cases hc : a.c = c
      · subst hc
        rw [if_pos ⟨hk, rfl⟩]
        have hput : putB bs a.c ⟨i, a.x, a.y⟩ a.c = some ⟨i, a.x, a.y⟩ := by unfold putB; rw [if_pos rfl]
        cases h : bs a.c with
        | none => dsimp only; rw [hput]; dsimp only; rw [if_pos rfl]
        | some b =>
          dsimp only
          by_cases hb : b.p = (i : Int)
          · rw [if_pos hb, h]; dsimp only; rw [if_pos hb, if_pos hb]
          · rw [if_neg hb, hput]; dsimp only; rw [if_pos rfl, if_neg hb]
      · rw [if_neg (fun h => hc h.2)]
        have hput : putB bs a.c ⟨i, a.x, a.y⟩ c = bs c := by unfold putB; rw [if_neg (fun h => hc h.symm)]
        cases bs a.c with
        | none => dsimp only; rw [hput]
        | some b =>
          dsimp only
          by_cases hb : b.p = (i : Int)
          · rw [if_pos hb]
          · rw [if_neg hb, hput]
    · rw [if_neg hk, if_neg (fun h => hk h.1)]

/-- The bases are the nearest ones. -/
theorem bs_near (w : Int → Int) (F : Fnt) (ign : Bool) (run : List Itm) (n : Nat) (hn : n ≤ run.length) (c : Int) : (marksFold w F ign run n).bs c = nearB F ign run c n := by
  induction n generalizing c with
  | zero => rfl
  | succ n ih =>
    have H := marksFold_inv w F ign run n (by omega)
    have ih' := fun c => ih (by omega) c
    rw [marksFold_succ]
    generalize marksFold w F ign run n = s at H ih'
    have hl := H.len
    rw [markStep_eq w F ign s n (by omega)]
    show stepBs F ign s n c = _
    unfold stepBs
    rw [H.g, nearB]
    have hbase : ∀ c, (if isMark F (gAt run n) = true then s.bs else fun _ => none) c = if isMark F (gAt run n) then nearB F ign run c n else none := fun c => by
      split
      · exact ih' c
      · rfl
    by_cases hm : (isMark F (gAt run n) && ign) = true
    · have h1 : isMark F (gAt run n) = true := by simp at hm; exact hm.1
      have h2 : ign = true := by simp at hm; exact hm.2
      rw [if_pos hm, if_neg (by simp [h1, h2])]
      dsimp only
      exact hbase c
    · rw [if_neg hm, if_pos (by cases h1 : isMark F (gAt run n) <;> cases h2 : ign <;> simp_all)]
      rw [offerL_at, hbase c]
      have hp : ∀ b, (if isMark F (gAt run n) then nearB F ign run c n else none) = some b → b.p ≠ (n : Int) := fun b hb => by
        split at hb
        · have := nearB_lt hb; omega
        · cases hb
      unfold anchorL
      cases hx : (if isMark F (gAt run n) then nearB F ign run c n else none) with
      | none => dsimp only; cases ancFind (ancOf F (gAt run n)) 1 c with
        | none => rfl
        | some p => rfl
      | some b => dsimp only; rw [if_neg (hp b hx)]; cases ancFind (ancOf F (gAt run n)) 1 c with
        | none => rfl
        | some p => rfl

theorem pick_app (xs ys : List (Anc × Bas)) (s : Bas × Anc) : pickL (xs ++ ys) s.1 s.2 = pickL ys (pickL xs s.1 s.2).1 (pickL xs s.1 s.2).2 := by
  unfold pickL; rw [List.foldl_append]
theorem pick_stay (ys : List (Anc × Bas)) (s : Bas × Anc) (h : ∀ x ∈ ys, x.2.p ≤ s.1.p) : pickL ys s.1 s.2 = s := by
  induction ys with
  | nil => rfl
  | cons x t ih =>
    have e : pickL (x :: t) s.1 s.2 = pickL t (if s.1.p < x.2.p then (x.2, x.1) else s).1 (if s.1.p < x.2.p then (x.2, x.1) else s).2 := rfl
    have hx := h x (List.mem_cons_self ..)
    rw [e, if_neg (by omega)]
    exact ih fun y hy => h y (List.mem_cons_of_mem _ hy)
theorem pick_max (pre post : List (Anc × Bas)) (x : Anc × Bas) (s : Bas × Anc) (hs : s.1.p < x.2.p) (hpre : ∀ y ∈ pre, y.2.p < x.2.p) (hpost : ∀ y ∈ post, y.2.p ≤ x.2.p) : pickL (pre ++ x :: post) s.1 s.2 = (x.2, x.1) := by
  rw [pick_app]
  have e : ∀ t : Bas × Anc, pickL (x :: post) t.1 t.2 = pickL post (if t.1.p < x.2.p then (x.2, x.1) else t).1 (if t.1.p < x.2.p then (x.2, x.1) else t).2 := fun t => rfl
  rw [e]
  have hlt : (pickL pre s.1 s.2).1.p < x.2.p := by
    rcases pick_mem pre s with h | ⟨y, hy, h⟩
    · rw [h]; exact hs
    · rw [h]; exact hpre y hy
  rw [if_pos hlt]
  exact pick_stay post (x.2, x.1) hpost

theorem hosts_none {anc : List Anc} {bs : Int → Option Bas} (h : ∀ a ∈ anc, a.k = 2 → bs a.c = none) : hostsL anc bs = [] := by
  unfold hostsL
  rw [List.filterMap_eq_nil_iff]
  intro a ha
  split
  · rename_i hk; rw [h a ha hk]; rfl
  · rfl
theorem hosts_congr {anc : List Anc} {bs bs' : Int → Option Bas} (h : ∀ a ∈ anc, a.k = 2 → bs a.c = bs' a.c) : hostsL anc bs = hostsL anc bs' := by
  unfold hostsL
  induction anc with
  | nil => rfl
  | cons a t ih =>
    have e := ih fun x hx => h x (List.mem_cons_of_mem _ hx)
    have ea : (if a.k = 2 then (bs a.c).map fun b => (a, b) else none) = (if a.k = 2 then (bs' a.c).map fun b => (a, b) else none) := by
      split
      · rename_i hk; rw [h a (List.mem_cons_self ..) hk]
      · rfl
    rw [List.filterMap_cons, List.filterMap_cons, ea, e]
theorem takenA_none {F : Fnt} {l : List Anc} {h : Int} (ht : takenA F l h = none) : ∀ a ∈ l, a.k = 2 → anchorL F h 1 a.c = none := by
  unfold takenA at ht
  rw [List.findSome?_eq_none_iff] at ht
  intro a ha hk
  have := ht a ha
  rw [if_pos hk] at this
  simpa using this
theorem takenA_some {F : Fnt} {l : List Anc} {h : Int} {a : Anc} {x y : Int} (ht : takenA F l h = some (a, x, y)) : ∃ l1 l2, l = l1 ++ a :: l2 ∧ a.k = 2 ∧ anchorL F h 1 a.c = some (x, y) ∧ ∀ b ∈ l1, b.k = 2 → anchorL F h 1 b.c = none := by
  unfold takenA at ht
  rw [List.findSome?_eq_some_iff] at ht
  obtain ⟨l1, b, l2, e, hb, hn⟩ := ht
  split at hb
  · rename_i hk
    obtain ⟨p, hp, e2⟩ := Option.map_eq_some_iff.1 hb
    injection e2 with e3 e4
    injection e4 with e4 e5
    subst e3
    refine ⟨l1, l2, e, hk, by rw [hp, ← e4, ← e5], fun c hc hck => ?_⟩
    have := hn c hc
    rw [if_pos hck] at this
    simpa using this
  · cases hb

/-- The host that attach finds is the document's. -/
theorem hostS_near (F : Fnt) (ign : Bool) (run : List Itm) (g : Int) (n : Nat) : hostS F g (fun c => nearB F ign run c n) = match hostR F ign run g n with
    | none => (⟨-1, 0, 0⟩, default)
    | some k => match takenL F g (gAt run k) with | some (a, x, y) => (⟨k, x, y⟩, a) | none => (⟨-1, 0, 0⟩, default) := by
  have nil : ∀ bs : Int → Option Bas, (∀ a ∈ ancOf F g, a.k = 2 → bs a.c = none) → hostS F g bs = (⟨-1, 0, 0⟩, default) := fun bs h => by
    unfold hostS; rw [hosts_none h]; rfl
  induction n with
  | zero => rw [hostR]; exact nil _ fun _ _ _ => rfl
  | succ n ih =>
    rw [hostR]
    by_cases hm : (isMark F (gAt run n) && ign) = true
    · have h1 : isMark F (gAt run n) = true := by simp at hm; exact hm.1
      rw [if_neg (by simp [hm]), if_pos h1, ← ih]
      congr 1
      funext c
      rw [nearB, if_pos hm]
      dsimp only
      rw [if_pos h1]
    · have hm' : (isMark F (gAt run n) && ign) = false := by simpa using hm
      cases ht : takenL F g (gAt run n) with
      | none =>
        rw [if_neg (by simp)]
        have hno := takenA_none (show takenA F (ancOf F g) (gAt run n) = none from ht)
        have hnb : ∀ a ∈ ancOf F g, a.k = 2 → nearB F ign run a.c (n + 1) = if isMark F (gAt run n) then nearB F ign run a.c n else none := fun a ha hk => by
          rw [nearB, if_neg hm, hno a ha hk]
        by_cases h1 : isMark F (gAt run n) = true
        · rw [if_pos h1, ← ih]
          unfold hostS
          rw [hosts_congr (bs' := fun c => nearB F ign run c n) fun a ha hk => by rw [hnb a ha hk, if_pos h1]]
        · rw [if_neg h1]
          exact nil _ fun a ha hk => by rw [hnb a ha hk, if_neg h1]
      | some t =>
        obtain ⟨a, x, y⟩ := t
        rw [if_pos (by simp [hm'])]
        dsimp only
        rw [ht]
        dsimp only
        obtain ⟨l1, l2, e, hk, hax, hl1⟩ := takenA_some (show takenA F (ancOf F g) (gAt run n) = some (a, x, y) from ht)
        have hna : nearB F ign run a.c (n + 1) = some ⟨n, x, y⟩ := by rw [nearB, if_neg hm, hax]
        have hle : ∀ c b, nearB F ign run c (n + 1) = some b → b.p ≤ (n : Int) := fun c b hb => by have := nearB_lt hb; omega
        have e2 : hostsL (ancOf F g) (fun c => nearB F ign run c (n + 1)) = hostsL l1 (fun c => nearB F ign run c (n + 1)) ++ (a, ⟨n, x, y⟩) :: hostsL l2 (fun c => nearB F ign run c (n + 1)) := by
          rw [e]
          unfold hostsL
          rw [List.filterMap_append, List.filterMap_cons, if_pos hk]
          dsimp only
          rw [hna]
          rfl
        unfold hostS
        rw [e2]
        refine pick_max _ _ (a, ⟨n, x, y⟩) (⟨-1, 0, 0⟩, default) (by show (-1 : Int) < (n : Int); omega) (fun z hz => ?_) (fun z hz => hle _ _ (hosts_mem hz).2.2)
        obtain ⟨z1, z2, z3⟩ := hosts_mem hz
        have := hl1 z.1 z1 z2
        rw [nearB, if_neg hm, this] at z3
        dsimp only at z3
        split at z3
        · exact (nearB_lt z3).2
        · cases z3

theorem width_next (w : Int → Int) {run : List Itm} {j : Nat} (h : j < run.length) : widthL w (run.take (j + 1)) = w (widthL w (run.take j) + (itAt run j).a) := by
  unfold widthL itAt; rw [List.take_add_one, List.foldl_append, List.getElem?_eq_getElem h]; simp [h]
theorem take_same {r s : List Itm} (hl : r.length = s.length) {n : Nat} (h : ∀ i, i < n → itAt r i = itAt s i) : r.take n = s.take n := by
  refine run_ext (by simp [hl]) fun i hi => ?_
  have hi' : i < n ∧ i < r.length := by rw [List.length_take] at hi; omega
  have := h i hi'.1
  unfold itAt at this ⊢
  simp only [List.getD_eq_getElem?_getD, List.getElem?_take, if_pos hi'.1]
  simpa [List.getD_eq_getElem?_getD] using this

structure PInv (w : Int → Int) (n : Nat) (s : MSt) : Prop where
  pl : s.pens.length = s.run.length
  pen : s.pen = widthL w (s.run.take n)
  pens : ∀ j, j < n → s.pens.getD j 0 = widthL w (s.run.take j)
theorem marksFold_pens (w : Int → Int) (F : Fnt) (ign : Bool) (run : List Itm) (n : Nat) (hn : n ≤ run.length) : PInv w n (marksFold w F ign run n) := by
  induction n with
  | zero => exact ⟨by simp [marksFold], rfl, fun j hj => by omega⟩
  | succ n ih =>
    have H := marksFold_inv w F ign run n (by omega)
    have P := ih (by omega)
    rw [marksFold_succ]
    generalize marksFold w F ign run n = s at H P
    have hl := H.len
    rw [markStep_eq w F ign s n (by omega)]
    have htk : ∀ j, j ≤ n → (stepRun w F s n).take j = s.run.take j := fun j hj => take_same (stepRun_len ..) fun i hi => stepRun_other w F s (by omega) (by omega)
    refine ⟨by simp only [List.length_set, stepRun_len]; exact P.pl, ?_, fun j hj => ?_⟩
    · show w (s.pen + (itAt (stepRun w F s n) n).a) = widthL w ((stepRun w F s n).take (n + 1))
      rw [width_next w (by rw [stepRun_len]; omega), htk n (Nat.le_refl _), P.pen]
    · show (s.pens.set n s.pen).getD j 0 = widthL w ((stepRun w F s n).take j)
      rw [htk j (by omega), List.getD_eq_getElem?_getD, List.getElem?_set]
      by_cases e : n = j
      · subst e
        have := P.pl
        simp only [if_true, if_pos (show n < s.pens.length by omega), Option.getD_some]
        exact P.pen
      · rw [if_neg e, ← List.getD_eq_getElem?_getD]
        exact P.pens j (by omega)

theorem marks_ref (w : Int → Int) (F : Fnt) (ign : Bool) (run : List Itm) : marksL w F ign run = marksR w F ign run := by
  have key : ∀ n, n ≤ run.length → (marksFold w F ign run n).run = (List.range n).foldl (markR w F ign) run := by
    intro n
    induction n with
    | zero => intro _; rfl
    | succ n ih =>
      intro hn
      have H := marksFold_inv w F ign run n (by omega)
      have P := marksFold_pens w F ign run n (by omega)
      have B := bs_near w F ign run n (by omega)
      rw [marksFold_succ, List.range_succ, List.foldl_append, ← ih (by omega), markStep_run]
      generalize marksFold w F ign run n = s at H P B
      show stepRun w F s n = markR w F ign s.run n
      have hl := H.len
      have hpl := P.pl
      have hbs : s.bs = fun c => nearB F ign s.run c n := by
        funext c; rw [B c]; exact nearB_congr c n fun i => (H.g i).symm
      have hh := hostS_near F ign s.run (gAt s.run n) n
      rw [← hbs] at hh
      unfold stepRun markR
      split
      · have pn : (s.pens.set n s.pen).getD n 0 = widthL w (s.run.take n) := by
          rw [List.getD_eq_getElem?_getD, List.getElem?_set]
          simp only [if_true, if_pos (show n < s.pens.length by omega), Option.getD_some]
          exact P.pen
        rw [hangL_eq]
        cases hr : hostR F ign s.run (gAt s.run n) n with
        | none => rw [hr] at hh; dsimp only at hh; rw [if_pos (by rw [hh]; show (-1 : Int) < 0; omega)]
        | some k =>
          rw [hr] at hh
          dsimp only at hh ⊢
          rcases ht : takenL F (gAt s.run n) (gAt s.run k) with _ | ⟨a, x, y⟩
          · rw [ht] at hh; dsimp only at hh; rw [if_pos (by rw [hh]; show (-1 : Int) < 0; omega)]
          · rw [ht] at hh
            dsimp only at hh ⊢
            have hk := hostS_lt (F := F) (g := gAt s.run n) H.bs (by rw [hh]; show ¬ (k : Int) < 0; omega)
            rw [hh] at hk
            have hk' : (k : Int) < (n : Int) := hk
            rw [if_neg (by rw [hh]; show ¬ (k : Int) < 0; omega), hh]
            have pk : (s.pens.set n s.pen).getD k 0 = widthL w (s.run.take k) := by
              rw [List.getD_eq_getElem?_getD, List.getElem?_set, if_neg (by omega), ← List.getD_eq_getElem?_getD]
              exact P.pens k (by omega)
            dsimp only
            rw [Int.toNat_natCast, pk, pn]
      · rfl
  rw [marksL_fold, key _ (Nat.le_refl _)]; rfl

/-- The document's cursive joins. -/
def cursRS (w : Int → Int) (F : Fnt) (ign : Bool) (st : Int × List Itm) (b : Nat) : Int × List Itm :=
  if ign && isMark F (gAt st.2 b) then st
  else ((b : Int), if 0 ≤ st.1 then
      match anchorL F (gAt st.2 st.1.toNat) 4 0, anchorL F (gAt st.2 b) 3 0 with
      | some (ex, ey), some (nx, ny) =>
        let r1 := st.2.set st.1.toNat { itAt st.2 st.1.toNat with a := w (w ((itAt st.2 st.1.toNat).a + w (w (widthL w (st.2.take st.1.toNat) + (itAt st.2 st.1.toNat).x) + ex)) - w (w (widthL w (st.2.take b) + (itAt st.2 b).x) + nx)) }
        r1.set b { itAt r1 b with y := w (w ((itAt r1 st.1.toNat).y + ey) - ny) }
      | _, _ => st.2
    else st.2)
def cursR (w : Int → Int) (F : Fnt) (ign : Bool) (run : List Itm) : List Itm := ((List.range run.length).foldl (cursRS w F ign) (-1, run)).2
theorem width_scan {w : Int → Int} (hw : Wr w) (F : Fnt) (ign : Bool) (r : List Itm) (n : Nat) (hn : n ≤ r.length) : ∀ a : Nat, (scan w F ign r n).1 = (a : Int) → ∃ k : Int, widthL w (r.take n) = widthL w (r.take a) + (itAt r a).a + (scan w F ign r n).2 + k * 18446744073709551616 := by
  induction n with
  | zero => intro a ha; simp [scan] at ha
  | succ n ih =>
    intro a ha
    rw [scan] at ha ⊢
    rw [width_next w (by omega)]
    obtain ⟨q, hq⟩ := hw.out (widthL w (r.take n) + (itAt r n).a)
    by_cases hh : hidB F ign r n = true
    · rw [if_pos hh] at ha ⊢
      obtain ⟨k, hk⟩ := ih (by omega) a ha
      obtain ⟨q2, hq2⟩ := hw.out ((scan w F ign r n).2 + (itAt r n).a)
      dsimp only
      exact ⟨q + k - q2, by rw [hq, hk, hq2]; omega⟩
    · rw [if_neg hh] at ha ⊢
      dsimp only at ha ⊢
      have : a = n := by omega
      subst this
      exact ⟨q, by rw [hq]; omega⟩
theorem curs_ref {w : Int → Int} (hw : Wr w) (F : Fnt) (ign : Bool) (run : List Itm) : cursL w F ign run = cursR w F ign run := by
  have key : ∀ n, n ≤ run.length → ((cursFold w F ign run n).1, (cursFold w F ign run n).2.2) = (List.range n).foldl (cursRS w F ign) (-1, run) := by
    intro n
    induction n with
    | zero => intro _; rfl
    | succ n ih =>
      intro hn
      have H := cursFold_inv w F ign run n (by omega)
      rw [cursFold_succ, List.range_succ, List.foldl_append, ← ih (by omega)]
      generalize cursFold w F ign run n = st at H
      obtain ⟨h, t, r⟩ := st
      have hl : r.length = run.length := H.len
      show _ = cursRS w F ign (h, r) n
      unfold cursStep cursRS
      dsimp only
      split
      · rfl
      · dsimp only
        congr 1
        split
        · rename_i h0
          obtain ⟨a, rfl⟩ : ∃ a : Nat, h = a := ⟨h.toNat, by omega⟩
          have hsc := H.sc
          dsimp only at hsc
          have hs2 := H.scan n
          dsimp only at hs2
          rw [← hsc] at hs2
          obtain ⟨k, hk⟩ := width_scan hw F ign r n (by omega) a (by rw [hs2])
          rw [hs2] at hk
          dsimp only at hk
          rw [Int.toNat_natCast]
          unfold joinA
          rcases h1 : anchorL F (gAt r a) 4 0 with _ | ⟨ex, ey⟩
          · rfl
          · rcases h2 : anchorL F (gAt r n) 3 0 with _ | ⟨nx, ny⟩
            · rfl
            · dsimp only
              have e : w (w (w (w ((itAt r a).x + ex) - nx) - (itAt r n).x) - t) = w (w ((itAt r a).a + w (w (widthL w (r.take a) + (itAt r a).x) + ex)) - w (w (widthL w (r.take n) + (itAt r n).x) + nx)) := by
                simp only [hw.addl, hw.subl, hw.addr, hw.subr]
                exact hw.eq _ _ k (by rw [hk]; omega)
              rw [e]
        · rfl
  rw [cursL_fold]
  have := key _ (Nat.le_refl _)
  show _ = ((List.range run.length).foldl (cursRS w F ign) (-1, run)).2
  rw [← this]

end Go.Proofs.Ytbjcbcdccekbkaa
