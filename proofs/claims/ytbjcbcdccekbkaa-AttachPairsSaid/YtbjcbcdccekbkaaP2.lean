/- Plain laws of marks: what they keep; done once more; higher runs. -/
import Derived.Test.YtbjcbcdccekbkaaP1
namespace Go.Proofs.Ytbjcbcdccekbkaa

/-- Where a mark hangs, and by which anchor. -/
def hostS (F : Fnt) (g : Int) (bs : Int → Option Bas) : Bas × Anc := pickL (hostsL (ancOf F g) bs) ⟨-1, 0, 0⟩ default
theorem hangL_eq (w : Int → Int) (F : Fnt) (run : List Itm) (i : Nat) (pens : List Int) (bs : Int → Option Bas) : hangL w F run i pens bs = if (hostS F (gAt run i) bs).1.p < 0 then run else
    run.set i { itAt run i with a := 0, x := w (w (w (w (pens.getD (hostS F (gAt run i) bs).1.p.toNat 0 + (itAt run (hostS F (gAt run i) bs).1.p.toNat).x) + (hostS F (gAt run i) bs).1.x) - pens.getD i 0) - (hostS F (gAt run i) bs).2.x), y := w (w ((itAt run (hostS F (gAt run i) bs).1.p.toNat).y + (hostS F (gAt run i) bs).1.y) - (hostS F (gAt run i) bs).2.y) } := rfl
theorem hangL_len (w : Int → Int) (F : Fnt) (run : List Itm) (i : Nat) (pens : List Int) (bs : Int → Option Bas) : (hangL w F run i pens bs).length = run.length := by
  rw [hangL_eq]; split <;> simp
/-- The bases lie ahead of a place. -/
def BsOK (bs : Int → Option Bas) (i : Int) : Prop := ∀ c b, bs c = some b → 0 ≤ b.p ∧ b.p < i
theorem BsOK.up {bs : Int → Option Bas} {i j : Int} (h : BsOK bs i) (hij : i ≤ j) : BsOK bs j := fun c b hb => ⟨(h c b hb).1, by have := (h c b hb).2; omega⟩
theorem pick_mem (ys : List (Anc × Bas)) (s : Bas × Anc) : pickL ys s.1 s.2 = s ∨ ∃ x ∈ ys, pickL ys s.1 s.2 = (x.2, x.1) := by
  induction ys generalizing s with
  | nil => exact .inl rfl
  | cons x t ih =>
    have e : pickL (x :: t) s.1 s.2 = pickL t (if s.1.p < x.2.p then (x.2, x.1) else s).1 (if s.1.p < x.2.p then (x.2, x.1) else s).2 := rfl
    rw [e]
    rcases ih (if s.1.p < x.2.p then (x.2, x.1) else s) with h | ⟨y, hy, h⟩
    · rw [h]
      split
      · exact .inr ⟨x, List.mem_cons_self .., rfl⟩
      · exact .inl rfl
    · exact .inr ⟨y, List.mem_cons_of_mem _ hy, h⟩
theorem hosts_mem {anc : List Anc} {bs : Int → Option Bas} {x : Anc × Bas} (hx : x ∈ hostsL anc bs) : x.1 ∈ anc ∧ x.1.k = 2 ∧ bs x.1.c = some x.2 := by
  unfold hostsL at hx
  obtain ⟨a, ha1, ha⟩ := List.mem_filterMap.1 hx
  split at ha
  · rename_i hk
    obtain ⟨b, hb, rfl⟩ := Option.map_eq_some_iff.1 ha
    exact ⟨ha1, hk, hb⟩
  · cases ha
theorem hostS_lt {F : Fnt} {g : Int} {bs : Int → Option Bas} {i : Int} (h : BsOK bs i) (h0 : ¬ (hostS F g bs).1.p < 0) : (hostS F g bs).1.p < i := by
  rcases pick_mem (hostsL (ancOf F g) bs) (⟨-1, 0, 0⟩, default) with e | ⟨x, hx, e⟩
  · exfalso
    apply h0
    show (pickL (hostsL (ancOf F g) bs) ⟨-1, 0, 0⟩ default).1.p < 0
    rw [show pickL (hostsL (ancOf F g) bs) ⟨-1, 0, 0⟩ default = ((⟨-1, 0, 0⟩ : Bas), default) from e]
    show (-1 : Int) < 0
    omega
  · show (pickL (hostsL (ancOf F g) bs) ⟨-1, 0, 0⟩ default).1.p < i
    rw [show pickL (hostsL (ancOf F g) bs) ⟨-1, 0, 0⟩ default = (x.2, x.1) from e]
    exact (h _ _ (hosts_mem hx).2.2).2
theorem offer1_ok {i : Nat} {bs : Int → Option Bas} {j : Int} (h : BsOK bs j) (hj : (i : Int) < j) (a : Anc) : BsOK (offer1 i bs a) j := by
  unfold offer1
  split
  · have hp : BsOK (putB bs a.c ⟨i, a.x, a.y⟩) j := by
      intro c b hb
      unfold putB at hb
      split at hb
      · injection hb with hb; subst hb; exact ⟨by show (0 : Int) ≤ (i : Int); omega, hj⟩
      · exact h c b hb
    split
    · split
      · exact h
      · exact hp
    · exact hp
  · exact h
theorem offerL_ok (anc : List Anc) {i : Nat} {bs : Int → Option Bas} {j : Int} (h : BsOK bs j) (hj : (i : Int) < j) : BsOK (offerL anc i bs) j := by
  unfold offerL
  induction anc generalizing bs with
  | nil => exact h
  | cons a t ih => exact ih (offer1_ok h hj a)

def marksFold (w : Int → Int) (F : Fnt) (ign : Bool) (run : List Itm) (n : Nat) : MSt := (List.range n).foldl (markStep w F ign) ⟨fun _ => none, List.replicate run.length 0, 0, run⟩
theorem marksFold_succ (w : Int → Int) (F : Fnt) (ign : Bool) (run : List Itm) (n : Nat) : marksFold w F ign run (n + 1) = markStep w F ign (marksFold w F ign run n) n := by
  unfold marksFold; rw [List.range_succ, List.foldl_append]; rfl
theorem marksL_fold (w : Int → Int) (F : Fnt) (ign : Bool) (run : List Itm) : marksL w F ign run = (marksFold w F ign run run.length).run := rfl
/-- What the run is behind a step. -/
def stepRun (w : Int → Int) (F : Fnt) (s : MSt) (i : Nat) : List Itm := if isMark F (gAt s.run i) then hangL w F s.run i (s.pens.set i s.pen) s.bs else s.run
theorem markStep_run (w : Int → Int) (F : Fnt) (ign : Bool) (s : MSt) (i : Nat) : (markStep w F ign s i).run = stepRun w F s i := rfl
theorem stepRun_len (w : Int → Int) (F : Fnt) (s : MSt) (i : Nat) : (stepRun w F s i).length = s.run.length := by
  unfold stepRun; split
  · exact hangL_len ..
  · rfl
theorem stepRun_other (w : Int → Int) (F : Fnt) (s : MSt) {i j : Nat} (h : j ≠ i) (hi : i < s.run.length) : itAt (stepRun w F s i) j = itAt s.run j := by
  unfold stepRun; split
  · rw [hangL_eq]; split
    · rfl
    · rw [itAt_set hi, if_neg (fun e => h e.symm)]
  · rfl
theorem stepRun_key (w : Int → Int) (F : Fnt) (s : MSt) (i j : Nat) (hi : i < s.run.length) : (itAt (stepRun w F s i) j).g = (itAt s.run j).g ∧ (itAt (stepRun w F s i) j).c = (itAt s.run j).c ∧ (itAt (stepRun w F s i) j).f = (itAt s.run j).f := by
  by_cases e : j = i
  · subst e
    unfold stepRun; split
    · rw [hangL_eq]; split
      · exact ⟨rfl, rfl, rfl⟩
      · rw [itAt_set hi, if_pos rfl]; exact ⟨rfl, rfl, rfl⟩
    · exact ⟨rfl, rfl, rfl⟩
  · rw [stepRun_other w F s e hi]; exact ⟨rfl, rfl, rfl⟩
def stepBs (F : Fnt) (ign : Bool) (s : MSt) (i : Nat) : Int → Option Bas :=
  if !isMark F (gAt s.run i) || !ign then offerL (ancOf F (gAt s.run i)) i (if isMark F (gAt s.run i) then s.bs else fun _ => none) else (if isMark F (gAt s.run i) then s.bs else fun _ => none)
theorem gAt_step (w : Int → Int) (F : Fnt) (s : MSt) {i : Nat} (j : Nat) (hi : i < s.run.length) : gAt (stepRun w F s i) j = gAt s.run j := gAt_same (stepRun_len ..) (fun j _ => (stepRun_key w F s i j hi).1) j
theorem markStep_eq (w : Int → Int) (F : Fnt) (ign : Bool) (s : MSt) (i : Nat) (hi : i < s.run.length) : markStep w F ign s i = ⟨stepBs F ign s i, s.pens.set i s.pen, w (s.pen + (itAt (stepRun w F s i) i).a), stepRun w F s i⟩ := by
  have hg := gAt_step w F s i hi
  show MSt.mk (if !isMark F (gAt s.run i) || !ign then offerL (ancOf F (gAt (stepRun w F s i) i)) i (if isMark F (gAt s.run i) then s.bs else fun _ => none) else (if isMark F (gAt s.run i) then s.bs else fun _ => none)) (s.pens.set i s.pen) (w (s.pen + (itAt (stepRun w F s i) i).a)) (stepRun w F s i) = _
  rw [hg]; rfl
theorem stepBs_ok {F : Fnt} {ign : Bool} {s : MSt} {i : Nat} (h : BsOK s.bs i) : BsOK (stepBs F ign s i) ((i : Int) + 1) := by
  have h1 : BsOK (if isMark F (gAt s.run i) then s.bs else fun _ => none) ((i : Int) + 1) := by
    split
    · exact h.up (by omega)
    · intro c b hb; cases hb
  unfold stepBs
  split
  · exact offerL_ok _ h1 (by omega)
  · exact h1

structure MInv (w : Int → Int) (F : Fnt) (run : List Itm) (n : Nat) (s : MSt) : Prop where
  len : s.run.length = run.length
  key : ∀ i, (itAt s.run i).g = (itAt run i).g ∧ (itAt s.run i).c = (itAt run i).c ∧ (itAt s.run i).f = (itAt run i).f
  rest : ∀ i, n ≤ i → itAt s.run i = itAt run i
  bs : BsOK s.bs n
theorem MInv.g {w : Int → Int} {F : Fnt} {run : List Itm} {n : Nat} {s : MSt} (h : MInv w F run n s) (i : Nat) : gAt s.run i = gAt run i := gAt_same h.len (fun j _ => (h.key j).1) i
theorem marksFold_inv (w : Int → Int) (F : Fnt) (ign : Bool) (run : List Itm) (n : Nat) (hn : n ≤ run.length) : MInv w F run n (marksFold w F ign run n) := by
  induction n with
  | zero => exact ⟨rfl, fun _ => ⟨rfl, rfl, rfl⟩, fun _ _ => rfl, fun c b hb => by cases hb⟩
  | succ n ih =>
    have H := ih (by omega)
    rw [marksFold_succ]
    generalize marksFold w F ign run n = s at H
    have hl := H.len
    rw [markStep_eq w F ign s n (by omega)]
    refine ⟨by show (stepRun w F s n).length = _; rw [stepRun_len, hl], fun i => ?_, fun i hi => ?_, ?_⟩
    · obtain ⟨a, b, c⟩ := stepRun_key w F s n i (by omega)
      obtain ⟨a', b', c'⟩ := H.key i
      exact ⟨a.trans a', b.trans b', c.trans c'⟩
    · show itAt (stepRun w F s n) i = _
      rw [stepRun_other w F s (by omega) (by omega)]; exact H.rest i (by omega)
    · have := stepBs_ok (F := F) (ign := ign) H.bs
      show BsOK (stepBs F ign s n) ((n + 1 : Nat) : Int)
      rw [show ((n + 1 : Nat) : Int) = (n : Int) + 1 by omega]
      exact this
/-- What was done with an item is not undone. -/
theorem marksFold_stays (w : Int → Int) (F : Fnt) (ign : Bool) (run : List Itm) (n m : Nat) (hm : n + m ≤ run.length) (j : Nat) (hj : j < n) : itAt (marksFold w F ign run (n + m)).run j = itAt (marksFold w F ign run n).run j := by
  induction m with
  | zero => rfl
  | succ m ih =>
    have H := marksFold_inv w F ign run (n + m) (by omega)
    have hl := H.len
    rw [← Nat.add_assoc, marksFold_succ, markStep_run, stepRun_other w F _ (by omega) (by omega)]
    exact ih (by omega)
theorem marksL_len (w : Int → Int) (F : Fnt) (ign : Bool) (run : List Itm) : (marksL w F ign run).length = run.length := (marksFold_inv w F ign run _ (Nat.le_refl _)).len
theorem marksL_g (w : Int → Int) (F : Fnt) (ign : Bool) (run : List Itm) (i : Nat) : gAt (marksL w F ign run) i = gAt run i := (marksFold_inv w F ign run _ (Nat.le_refl _)).g i
theorem marksL_at (w : Int → Int) (F : Fnt) (ign : Bool) (run : List Itm) (n j : Nat) (hn : n ≤ run.length) (hj : j < n) : itAt (marksL w F ign run) j = itAt (marksFold w F ign run n).run j := by
  rw [marksL_fold]
  have := marksFold_stays w F ign run n (run.length - n) (by omega) j hj
  rw [show n + (run.length - n) = run.length by omega] at this
  exact this
theorem marksFold_again (w : Int → Int) (F : Fnt) (ign : Bool) (run : List Itm) (n : Nat) (hn : n ≤ run.length) : marksFold w F ign (marksL w F ign run) n = ⟨(marksFold w F ign run n).bs, (marksFold w F ign run n).pens, (marksFold w F ign run n).pen, marksL w F ign run⟩ := by
  induction n with
  | zero => show MSt.mk _ (List.replicate (marksL w F ign run).length 0) _ _ = _; rw [marksL_len]; rfl
  | succ n ih =>
    have H := marksFold_inv w F ign run n (by omega)
    have hlt := fun j hj => marksL_at w F ign run n j (by omega) hj
    have hat := marksL_at w F ign run (n + 1) n hn (by omega)
    rw [marksFold_succ, ih (by omega), marksFold_succ]
    rw [marksFold_succ, markStep_run] at hat
    have hgR := marksL_g w F ign run
    have hlR := marksL_len w F ign run
    generalize marksFold w F ign run n = s at H hlt hat
    generalize marksL w F ign run = R at hlt hat hgR hlR
    obtain ⟨bs, pens, pen, r⟩ := s
    have hl : r.length = run.length := H.len
    have hbs : BsOK bs n := H.bs
    have hgg : ∀ i, gAt R i = gAt r i := fun i => (hgR i).trans (H.g i).symm
    rw [markStep_eq w F ign ⟨bs, pens, pen, R⟩ n (by show n < R.length; omega), markStep_eq w F ign ⟨bs, pens, pen, r⟩ n (by show n < r.length; omega)]
    have hrun : stepRun w F ⟨bs, pens, pen, R⟩ n = R := by
      unfold stepRun at hat ⊢
      dsimp only at hat ⊢
      rw [hgg]
      split
      · rename_i hm
        rw [if_pos hm] at hat
        rw [hangL_eq] at hat ⊢
        rw [hgg]
        split
        · rfl
        · rename_i h0
          rw [if_neg h0, itAt_set (by omega), if_pos rfl] at hat
          have hk := hostS_lt hbs h0
          refine run_ext (by simp) fun j hj => ?_
          rw [itAt_set (by omega)]
          split
          · rename_i e
            subst e
            dsimp only at hlt
            rw [hlt (hostS F (gAt r n) bs).1.p.toNat (by omega)]
            rw [hat]
          · rfl
      · rfl
    rw [hrun]
    show MSt.mk (stepBs F ign ⟨bs, pens, pen, R⟩ n) (pens.set n pen) (w (pen + (itAt R n).a)) R = MSt.mk (stepBs F ign ⟨bs, pens, pen, r⟩ n) (pens.set n pen) (w (pen + (itAt (stepRun w F ⟨bs, pens, pen, r⟩ n) n).a)) R
    rw [← hat]
    have e1 : stepBs F ign ⟨bs, pens, pen, R⟩ n = stepBs F ign ⟨bs, pens, pen, r⟩ n := by
      unfold stepBs; dsimp only; rw [hgg]
    rw [e1]
theorem marksL_twice (w : Int → Int) (F : Fnt) (ign : Bool) (run : List Itm) : marksL w F ign (marksL w F ign run) = marksL w F ign run := by
  conv => lhs; rw [marksL_fold, marksL_len, marksFold_again w F ign run _ (Nat.le_refl _)]

theorem marksL_up {w : Int → Int} (hw : Wr w) (d : Int) (F : Fnt) (ign : Bool) (run : List Itm) : marksL w F ign (upR w d run) = upR w d (marksL w F ign run) := by
  have key : ∀ n, n ≤ run.length → marksFold w F ign (upR w d run) n = ⟨(marksFold w F ign run n).bs, (marksFold w F ign run n).pens, (marksFold w F ign run n).pen, upR w d (marksFold w F ign run n).run⟩ := by
    intro n
    induction n with
    | zero => intro _; show MSt.mk _ (List.replicate (upR w d run).length 0) _ _ = _; rw [upR_len]; rfl
    | succ n ih =>
      intro hn
      have H := marksFold_inv w F ign run n (by omega)
      rw [marksFold_succ, marksFold_succ, ih (by omega)]
      generalize marksFold w F ign run n = s at H
      obtain ⟨bs, pens, pen, r⟩ := s
      have hl : r.length = run.length := H.len
      have hbs : BsOK bs n := H.bs
      rw [markStep_eq w F ign ⟨bs, pens, pen, upR w d r⟩ n (by show n < (upR w d r).length; rw [upR_len]; omega), markStep_eq w F ign ⟨bs, pens, pen, r⟩ n (by show n < r.length; omega)]
      have hrun : stepRun w F ⟨bs, pens, pen, upR w d r⟩ n = upR w d (stepRun w F ⟨bs, pens, pen, r⟩ n) := by
        unfold stepRun
        dsimp only
        rw [upR_g]
        split
        · rw [hangL_eq, hangL_eq, upR_g]
          split
          · rfl
          · rename_i h0
            have hk := hostS_lt hbs h0
            refine run_ext (by simp [upR_len]) fun j hj => ?_
            have hjr : j < r.length := by simpa [upR_len] using hj
            rw [itAt_set (by rw [upR_len]; omega), upR_at (run := r.set n _) (i := j) (by simpa using hjr), itAt_set (by omega)]
            split
            · rename_i e; subst e
              rw [upR_at hjr, upR_at (run := r) (i := (hostS F (gAt r n) bs).1.p.toNat) (by omega)]
              unfold upI
              dsimp only
              congr 1
              simp only [hw.addl, hw.subl]
              congr 1; omega
            · exact upR_at hjr
        · rfl
      rw [hrun]
      have e1 : stepBs F ign ⟨bs, pens, pen, upR w d r⟩ n = stepBs F ign ⟨bs, pens, pen, r⟩ n := by
        unfold stepBs; dsimp only; rw [upR_g]
      have e2 : (itAt (upR w d (stepRun w F ⟨bs, pens, pen, r⟩ n)) n).a = (itAt (stepRun w F ⟨bs, pens, pen, r⟩ n) n).a := by
        rw [upR_at (by rw [stepRun_len]; show n < r.length; omega)]; rfl
      rw [e1, e2]
  rw [marksL_fold, marksL_fold, upR_len, key _ (Nat.le_refl _)]

end Go.Proofs.Ytbjcbcdccekbkaa
