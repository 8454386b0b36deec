/- Plain laws of cursive joins: what they keep; done once more; how exits lie on entries; higher runs. -/
import Derived.Test.YtbjcbcdccekbkaaSpecA
namespace Go.Proofs.Ytbjcbcdccekbkaa

/-- Sums that go around: by multiples of 2 to the 64th. -/
structure Wr (w : Int → Int) : Prop where
  out : ∀ x, ∃ k : Int, w x = x + k * 18446744073709551616
  eq : ∀ x y k : Int, x = y + k * 18446744073709551616 → w x = w y
section
variable {w : Int → Int} (hw : Wr w)
include hw
theorem Wr.addl (x y : Int) : w (w x + y) = w (x + y) := by obtain ⟨k, hk⟩ := hw.out x; exact hw.eq _ _ k (by omega)
theorem Wr.subl (x y : Int) : w (w x - y) = w (x - y) := by obtain ⟨k, hk⟩ := hw.out x; exact hw.eq _ _ k (by omega)
theorem Wr.addr (x y : Int) : w (x + w y) = w (x + y) := by obtain ⟨k, hk⟩ := hw.out y; exact hw.eq _ _ k (by omega)
theorem Wr.subr (x y : Int) : w (x - w y) = w (x - y) := by obtain ⟨k, hk⟩ := hw.out y; exact hw.eq _ _ (-k) (by omega)
theorem Wr.twice (x : Int) : w (w x) = w x := by obtain ⟨k, hk⟩ := hw.out x; exact hw.eq _ _ k (by omega)
end

theorem itAt_set {run : List Itm} {i j : Nat} {it : Itm} (h : i < run.length) : itAt (run.set i it) j = if i = j then it else itAt run j := by
  unfold itAt
  simp only [List.getD_eq_getElem?_getD, List.getElem?_set]
  by_cases e : i = j
  · subst e; simp [h]
  · simp [e]
theorem gAt_it {run : List Itm} {i : Nat} : i < run.length → gAt run i = (itAt run i).g := fun h => by
  unfold gAt itAt; simp [h]
theorem gAt_same {r s : List Itm} (hl : r.length = s.length) (h : ∀ i, i < s.length → (itAt r i).g = (itAt s i).g) (i : Nat) : gAt r i = gAt s i := by
  by_cases hi : i < s.length
  · rw [gAt_it hi, gAt_it (by omega), h i hi]
  · unfold gAt; rw [List.getElem?_eq_none (by omega), List.getElem?_eq_none (by omega)]
theorem fAt_it {run : List Itm} {i : Nat} : i < run.length → fAt run i = (itAt run i).f := fun h => by
  unfold fAt itAt; simp [h]
theorem run_ext {r s : List Itm} (hl : r.length = s.length) (h : ∀ i, i < r.length → itAt r i = itAt s i) : r = s := by
  apply List.ext_getElem hl
  intro i h1 h2
  have := h i h1
  unfold itAt at this
  simpa [h1, h2] using this

/-- What stays of an item. -/
def keyI' (it : Itm) : Int × Int × Int := (it.g, it.c, it.f)
def hidB (F : Fnt) (ign : Bool) (run : List Itm) (i : Nat) : Bool := ign && isMark F (gAt run i)
/-- The last item that was seen ahead of a place, and the advances since. -/
def scan (w : Int → Int) (F : Fnt) (ign : Bool) (run : List Itm) : Nat → Int × Int
  | 0 => (-1, 0)
  | i + 1 => if hidB F ign run i then ((scan w F ign run i).1, w ((scan w F ign run i).2 + (itAt run i).a)) else ((i : Int), 0)
theorem scan_congr {w : Int → Int} {F : Fnt} {ign : Bool} {r s : List Itm} {n : Nat} (hg : ∀ i, i < n → gAt r i = gAt s i) (ha : ∀ i, i < n → hidB F ign s i = true → (itAt r i).a = (itAt s i).a) : scan w F ign r n = scan w F ign s n := by
  induction n with
  | zero => rfl
  | succ n ih =>
    have e := ih (fun i hi => hg i (by omega)) (fun i hi => ha i (by omega))
    have eh : hidB F ign r n = hidB F ign s n := by unfold hidB; rw [hg n (by omega)]
    rw [scan, scan, e, eh]
    split
    · rename_i h; rw [ha n (by omega) h]
    · rfl
theorem scan_lt (w : Int → Int) (F : Fnt) (ign : Bool) (run : List Itm) (n : Nat) : (scan w F ign run n).1 < n ∧ -1 ≤ (scan w F ign run n).1 := by
  induction n with
  | zero => simp [scan]
  | succ n ih => rw [scan]; split <;> simp <;> omega
theorem scan_seen {w : Int → Int} {F : Fnt} {ign : Bool} {run : List Itm} {n : Nat} (h : 0 ≤ (scan w F ign run n).1) : hidB F ign run (scan w F ign run n).1.toNat = false := by
  induction n with
  | zero => simp [scan] at h
  | succ n ih =>
    rw [scan] at h ⊢
    by_cases hh : hidB F ign run n = true
    · rw [if_pos hh] at h ⊢; exact ih h
    · rw [if_neg hh]; simpa using hh
theorem scan_last {w : Int → Int} {F : Fnt} {ign : Bool} {run : List Itm} {n b : Nat} (hb : b < n) (hs : hidB F ign run b = false) : (b : Int) ≤ (scan w F ign run n).1 := by
  induction n with
  | zero => omega
  | succ n ih =>
    rw [scan]
    by_cases hh : hidB F ign run n = true
    · rw [if_pos hh]
      have : b ≠ n := fun e => by subst e; rw [hs] at hh; cases hh
      exact ih (by omega)
    · rw [if_neg hh]; show (b : Int) ≤ n; omega

/-- The items up to a place are joined. -/
def Jnd (w : Int → Int) (F : Fnt) (ign : Bool) (run : List Itm) (n : Nat) : Prop :=
  ∀ b, b < n → hidB F ign run b = false → ∀ a : Nat, (scan w F ign run b).1 = (a : Int) → ∀ ex ey nx ny, anchorL F (gAt run a) 4 0 = some (ex, ey) → anchorL F (gAt run b) 3 0 = some (nx, ny) →
    (itAt run a).a = w (w (w (w ((itAt run a).x + ex) - nx) - (itAt run b).x) - (scan w F ign run b).2) ∧ (itAt run b).y = w (w ((itAt run a).y + ey) - ny)

theorem joinA_ln (w : Int → Int) (F : Fnt) (run : List Itm) (a b : Nat) (t : Int) : (joinA w F run a b t).length = run.length := by
  unfold joinA; split <;> simp
/-- What a join does with each item. -/
theorem joinA_at {w : Int → Int} {F : Fnt} {run : List Itm} {a b : Nat} {t : Int} (hab : a < b) (hb : b < run.length) (j : Nat) :
    itAt (joinA w F run a b t) j = match anchorL F (gAt run a) 4 0, anchorL F (gAt run b) 3 0 with
      | some (ex, ey), some (nx, ny) => if j = a then { itAt run a with a := w (w (w (w ((itAt run a).x + ex) - nx) - (itAt run b).x) - t) } else if j = b then { itAt run b with y := w (w ((itAt run a).y + ey) - ny) } else itAt run j
      | _, _ => itAt run j := by
  unfold joinA
  rcases h1 : anchorL F (gAt run a) 4 0 with _ | ⟨ex, ey⟩
  · rfl
  · rcases h2 : anchorL F (gAt run b) 3 0 with _ | ⟨nx, ny⟩
    · rfl
    · dsimp only
      rw [itAt_set (by simp; omega), itAt_set (by omega), itAt_set (by omega), itAt_set (by omega)]
      by_cases e1 : j = a
      · subst e1; rw [if_neg (by omega), if_pos rfl, if_pos rfl]
      · rw [if_neg e1]
        by_cases e2 : j = b
        · subst e2
          simp only [if_true, if_neg (show ¬ a = j by omega)]
        · rw [if_neg (fun h => e2 h.symm), if_neg (fun h => e1 h.symm), if_neg e2]

def cursFold (w : Int → Int) (F : Fnt) (ign : Bool) (run : List Itm) (n : Nat) : Int × Int × List Itm := (List.range n).foldl (cursStep w F ign) (-1, 0, run)
theorem cursFold_succ (w : Int → Int) (F : Fnt) (ign : Bool) (run : List Itm) (n : Nat) : cursFold w F ign run (n + 1) = cursStep w F ign (cursFold w F ign run n) n := by
  unfold cursFold; rw [List.range_succ, List.foldl_append]; rfl
theorem cursL_fold (w : Int → Int) (F : Fnt) (ign : Bool) (run : List Itm) : cursL w F ign run = (cursFold w F ign run run.length).2.2 := rfl

structure CInv (w : Int → Int) (F : Fnt) (ign : Bool) (run : List Itm) (n : Nat) (st : Int × Int × List Itm) : Prop where
  sc : (st.1, st.2.1) = scan w F ign run n
  len : st.2.2.length = run.length
  key : ∀ i, i < run.length → (itAt st.2.2 i).g = (itAt run i).g ∧ (itAt st.2.2 i).c = (itAt run i).c ∧ (itAt st.2.2 i).f = (itAt run i).f ∧ (itAt st.2.2 i).x = (itAt run i).x
  hid : ∀ i, hidB F ign run i = true → itAt st.2.2 i = itAt run i
  jnd : Jnd w F ign st.2.2 n
theorem CInv.g {w : Int → Int} {F : Fnt} {ign : Bool} {run : List Itm} {n : Nat} {st : Int × Int × List Itm} (h : CInv w F ign run n st) (i : Nat) : gAt st.2.2 i = gAt run i := gAt_same h.len (fun j hj => (h.key j hj).1) i
theorem CInv.hb {w : Int → Int} {F : Fnt} {ign : Bool} {run : List Itm} {n : Nat} {st : Int × Int × List Itm} (h : CInv w F ign run n st) (i : Nat) : hidB F ign st.2.2 i = hidB F ign run i := by unfold hidB; rw [h.g]
theorem CInv.scan {w : Int → Int} {F : Fnt} {ign : Bool} {run : List Itm} {n : Nat} {st : Int × Int × List Itm} (h : CInv w F ign run n st) (m : Nat) : Ytbjcbcdccekbkaa.scan w F ign st.2.2 m = Ytbjcbcdccekbkaa.scan w F ign run m :=
  scan_congr (fun i _ => h.g i) (fun i _ hi => by rw [h.hid i hi])
theorem cursFold_inv (w : Int → Int) (F : Fnt) (ign : Bool) (run : List Itm) (n : Nat) (hn : n ≤ run.length) : CInv w F ign run n (cursFold w F ign run n) := by
  induction n with
  | zero => exact ⟨rfl, rfl, fun _ _ => ⟨rfl, rfl, rfl, rfl⟩, fun _ _ => rfl, fun b hb => by omega⟩
  | succ n ih =>
    have H := ih (by omega)
    rw [cursFold_succ]
    generalize cursFold w F ign run n = st at H
    obtain ⟨h, t, r⟩ := st
    have hsc := H.sc
    dsimp only at hsc
    unfold cursStep
    dsimp only
    by_cases hh : hidB F ign run n = true
    · have hh' : (ign && isMark F (gAt r n)) = true := by have := H.hb n; unfold hidB at this hh; rw [this]; exact hh
      rw [if_pos hh']
      refine ⟨?_, H.len, H.key, H.hid, fun b hb hs => ?_⟩
      · rw [Ytbjcbcdccekbkaa.scan, if_pos hh, ← hsc]
        show (h, w (t + (itAt r n).a)) = (h, w (t + (itAt run n).a))
        rw [H.hid n hh]
      · by_cases e : b = n
        · subst e; have := H.hb b; rw [hh] at this; dsimp only at this hs; rw [this] at hs; cases hs
        · exact H.jnd b (by omega) hs
    · have hh' : (ign && isMark F (gAt r n)) = false := by have := H.hb n; unfold hidB at this hh; rw [this]; simpa using hh
      rw [if_neg (by rw [hh']; simp)]
      have hnew : Ytbjcbcdccekbkaa.scan w F ign run (n + 1) = ((n : Int), 0) := by rw [Ytbjcbcdccekbkaa.scan, if_neg hh]
      have hl : r.length = run.length := H.len
      by_cases h0 : 0 ≤ h
      · rw [if_pos h0]
        obtain ⟨a, rfl⟩ : ∃ a : Nat, h = a := ⟨h.toNat, by omega⟩
        rw [Int.toNat_natCast]
        have hbd := scan_lt w F ign run n
        rw [← hsc] at hbd
        dsimp only at hbd
        have han : a < n := by omega
        have hat := fun j => joinA_at (w := w) (F := F) (run := r) (t := t) han (by omega) j
        have hseen : hidB F ign run a = false := by
          have := scan_seen (w := w) (F := F) (ign := ign) (run := run) (n := n) (by rw [← hsc]; exact h0)
          rw [← hsc] at this; simpa using this
        have hkey : ∀ j, (itAt (joinA w F r a n t) j).g = (itAt r j).g ∧ (itAt (joinA w F r a n t) j).c = (itAt r j).c ∧ (itAt (joinA w F r a n t) j).f = (itAt r j).f ∧ (itAt (joinA w F r a n t) j).x = (itAt r j).x := fun j => by
          rw [hat j]
          split
          · split
            · rename_i e; subst e; exact ⟨rfl, rfl, rfl, rfl⟩
            · split
              · rename_i e; subst e; exact ⟨rfl, rfl, rfl, rfl⟩
              · exact ⟨rfl, rfl, rfl, rfl⟩
          · exact ⟨rfl, rfl, rfl, rfl⟩
        have hoth : ∀ j, j ≠ a → j ≠ n → itAt (joinA w F r a n t) j = itAt r j := fun j h1 h2 => by
          rw [hat j]; split
          · rw [if_neg h1, if_neg h2]
          · rfl
        have hY : ∀ j, j ≠ n → (itAt (joinA w F r a n t) j).y = (itAt r j).y := fun j h1 => by
          rw [hat j]; split
          · split
            · rename_i e; subst e; rfl
            · first | rfl | rw [if_neg h1]
          · rfl
        have hA : ∀ j, j ≠ a → (itAt (joinA w F r a n t) j).a = (itAt r j).a := fun j h1 => by
          rw [hat j]; split
          · rw [if_neg h1]; split
            · rename_i e; subst e; rfl
            · rfl
          · rfl
        have K : CInv w F ign run n ((a : Int), t, joinA w F r a n t) → CInv w F ign run (n + 1) ((n : Int), 0, joinA w F r a n t) := fun K => ⟨by rw [hnew], K.len, K.key, K.hid, fun b hb hs x hx ex ey nx ny h1 h2 => by
          by_cases e : b = n
          · subst e
            rw [K.scan, ← hsc] at hx
            have hx' : (a : Int) = x := hx
            have hx' : x = a := by omega
            subst hx'
            have g1 : gAt (joinA w F r x b t) x = gAt r x := (K.g x).trans (H.g x).symm
            have g2 : gAt (joinA w F r x b t) b = gAt r b := (K.g b).trans (H.g b).symm
            dsimp only at h1 h2
            rw [g1] at h1
            rw [g2] at h2
            have ea := hat x
            have eb := hat b
            rw [h1, h2] at ea eb
            dsimp only at ea eb
            rw [if_pos rfl] at ea
            rw [if_neg (by omega), if_pos rfl] at eb
            dsimp only
            rw [K.scan, ← hsc, ea, eb]
            exact ⟨rfl, rfl⟩
          · exact K.jnd b (by omega) hs x hx ex ey nx ny h1 h2⟩
        refine K ⟨hsc, by simp only [joinA_ln]; exact H.len, fun i hi => ?_, fun i hi => ?_, ?_⟩
        · obtain ⟨k1, k2, k3, k4⟩ := hkey i
          obtain ⟨m1, m2, m3, m4⟩ := H.key i hi
          exact ⟨k1.trans m1, k2.trans m2, k3.trans m3, k4.trans m4⟩
        · refine (hoth i (fun e => ?_) (fun e => ?_)).trans (H.hid i hi)
          · subst e; rw [hseen] at hi; cases hi
          · subst e; exact hh hi
        · intro b hb hs x hx ex ey nx ny h1 h2
          have hgg : ∀ j, gAt (joinA w F r a n t) j = gAt r j := fun j => gAt_same (joinA_ln ..) (fun j _ => (hkey j).1) j
          have hhb : ∀ j, hidB F ign (joinA w F r a n t) j = hidB F ign r j := fun j => by unfold hidB; rw [hgg]
          have hsn : ∀ m, Ytbjcbcdccekbkaa.scan w F ign (joinA w F r a n t) m = Ytbjcbcdccekbkaa.scan w F ign r m := fun m => scan_congr (fun i _ => hgg i) (fun i _ hi => by
            rw [hA i (fun e => by subst e; rw [H.hb i, hseen] at hi; cases hi)])
          dsimp only at hs hx h1 h2 ⊢
          rw [hhb] at hs
          rw [hsn] at hx
          rw [hgg] at h1 h2
          have J := H.jnd b hb hs x hx ex ey nx ny h1 h2
          dsimp only at J
          have hs' : hidB F ign run b = false := by rw [← H.hb b]; exact hs
          have hba := scan_last (w := w) hb hs'
          rw [← hsc] at hba
          dsimp only at hba
          have hxb := scan_lt w F ign r b
          rw [hx] at hxb
          rw [hsn, hA x (by omega), hY b (by omega), hY x (by omega), (hkey x).2.2.2, (hkey b).2.2.2]
          exact J
      · rw [if_neg h0]
        refine ⟨by rw [hnew], H.len, H.key, H.hid, fun b hb hs x hx => ?_⟩
        by_cases e : b = n
        · subst e
          rw [H.scan, ← hsc] at hx
          dsimp only at hx
          omega
        · exact H.jnd b (by omega) hs x hx

theorem cursL_inv (w : Int → Int) (F : Fnt) (ign : Bool) (run : List Itm) : CInv w F ign run run.length ((cursFold w F ign run run.length).1, (cursFold w F ign run run.length).2.1, cursL w F ign run) := cursFold_inv w F ign run run.length (Nat.le_refl _)
theorem cursL_len (w : Int → Int) (F : Fnt) (ign : Bool) (run : List Itm) : (cursL w F ign run).length = run.length := (cursL_inv w F ign run).len
theorem cursL_jnd (w : Int → Int) (F : Fnt) (ign : Bool) (run : List Itm) : Jnd w F ign (cursL w F ign run) (cursL w F ign run).length := by rw [cursL_len]; exact (cursL_inv w F ign run).jnd

/-- What is joined stays as it is. -/
theorem cursL_fix {w : Int → Int} {F : Fnt} {ign : Bool} {R : List Itm} (h : Jnd w F ign R R.length) : cursL w F ign R = R := by
  have key : ∀ n, n ≤ R.length → cursFold w F ign R n = ((scan w F ign R n).1, (scan w F ign R n).2, R) := by
    intro n
    induction n with
    | zero => intro _; rfl
    | succ n ih =>
      intro hn
      rw [cursFold_succ, ih (by omega)]
      unfold cursStep
      dsimp only
      rw [scan]
      by_cases hh : hidB F ign R n = true
      · rw [if_pos (by unfold hidB at hh; exact hh), if_pos hh]
      · rw [if_neg (by unfold hidB at hh; exact hh), if_neg hh]
        dsimp only
        by_cases h0 : 0 ≤ (scan w F ign R n).1
        · rw [if_pos h0]
          have hb := scan_lt w F ign R n
          obtain ⟨a, ha⟩ : ∃ a : Nat, (scan w F ign R n).1 = a := ⟨(scan w F ign R n).1.toNat, by omega⟩
          rw [ha, Int.toNat_natCast]
          have J := h n (by omega) (by simpa using hh) a ha
          have e : joinA w F R a n (scan w F ign R n).2 = R := by
            refine run_ext (joinA_ln ..) fun j hj => ?_
            rw [joinA_at (by omega) (by omega)]
            split
            · rename_i ex ey nx ny h1 h2
              obtain ⟨j1, j2⟩ := J ex ey nx ny h1 h2
              split
              · rename_i e; subst e; rw [← j1]
              · split
                · rename_i e; subst e; rw [← j2]
                · rfl
            · rfl
          rw [e]
        · rw [if_neg h0]
  rw [cursL_fold, key _ (Nat.le_refl _)]
theorem cursL_twice (w : Int → Int) (F : Fnt) (ign : Bool) (run : List Itm) : cursL w F ign (cursL w F ign run) = cursL w F ign run := cursL_fix (cursL_jnd w F ign run)

/-- A run that stands higher. -/
def upI (w : Int → Int) (d : Int) (it : Itm) : Itm := { it with y := w (it.y + d) }
def upR (w : Int → Int) (d : Int) (run : List Itm) : List Itm := run.map (upI w d)
theorem upR_len (w : Int → Int) (d : Int) (run : List Itm) : (upR w d run).length = run.length := by simp [upR]
theorem upR_at {w : Int → Int} {d : Int} {run : List Itm} {i : Nat} (h : i < run.length) : itAt (upR w d run) i = upI w d (itAt run i) := by
  unfold itAt upR; simp [h]
theorem upR_g (w : Int → Int) (d : Int) (run : List Itm) (i : Nat) : gAt (upR w d run) i = gAt run i := by
  unfold gAt upR; rw [List.getElem?_map, Option.map_map]; rfl
theorem upR_f (w : Int → Int) (d : Int) (run : List Itm) (i : Nat) : fAt (upR w d run) i = fAt run i := by
  unfold fAt upR; rw [List.getElem?_map, Option.map_map]; rfl
theorem joinA_up {w : Int → Int} (hw : Wr w) (d : Int) (F : Fnt) (run : List Itm) {a b : Nat} (t : Int) (hab : a < b) (hb : b < run.length) : joinA w F (upR w d run) a b t = upR w d (joinA w F run a b t) := by
  refine run_ext (by simp [joinA_ln, upR_len]) fun j hj => ?_
  rw [joinA_ln, upR_len] at hj
  rw [joinA_at hab (by rw [upR_len]; exact hb), upR_at (run := joinA w F run a b t) (by rw [joinA_ln]; exact hj), joinA_at hab hb, upR_g, upR_g, upR_at (run := run) (i := a) (by omega), upR_at (run := run) (i := b) hb, upR_at (run := run) (i := j) hj]
  rcases h1 : anchorL F (gAt run a) 4 0 with _ | ⟨ex, ey⟩
  · rfl
  · rcases h2 : anchorL F (gAt run b) 3 0 with _ | ⟨nx, ny⟩
    · rfl
    · dsimp only
      split
      · rfl
      · split
        · unfold upI
          dsimp only
          congr 1
          simp only [hw.addl, hw.subl]
          congr 1; omega
        · rfl
theorem cursL_up {w : Int → Int} (hw : Wr w) (d : Int) (F : Fnt) (ign : Bool) (run : List Itm) : cursL w F ign (upR w d run) = upR w d (cursL w F ign run) := by
  have key : ∀ n, n ≤ run.length → cursFold w F ign (upR w d run) n = ((cursFold w F ign run n).1, (cursFold w F ign run n).2.1, upR w d (cursFold w F ign run n).2.2) := by
    intro n
    induction n with
    | zero => intro _; rfl
    | succ n ih =>
      intro hn
      have H := cursFold_inv w F ign run n (by omega)
      rw [cursFold_succ, cursFold_succ, ih (by omega)]
      generalize cursFold w F ign run n = st at H
      obtain ⟨h, t, r⟩ := st
      have hl : r.length = run.length := H.len
      unfold cursStep
      dsimp only
      rw [upR_g, upR_at (by omega)]
      split
      · rfl
      · dsimp only
        split
        · rename_i h0
          have hb := scan_lt w F ign run n
          have hsc := H.sc
          dsimp only at hsc
          rw [← hsc] at hb
          dsimp only at hb
          rw [joinA_up hw d F r t (by omega) (by omega)]
        · rfl
  rw [cursL_fold, cursL_fold, upR_len, key _ (Nat.le_refl _)]

end Go.Proofs.Ytbjcbcdccekbkaa
