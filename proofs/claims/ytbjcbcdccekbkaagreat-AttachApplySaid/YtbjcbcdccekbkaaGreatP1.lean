/- Plain laws of cursive joins: what they keep; done once more; how exits lie on entries; higher runs. -/
import Derived.Test.YtbjcbcdccekbkaaGreatSpecA
namespace Go.Proofs.YtbjcbcdccekbkaaGreat

/-- Sums that go around: by multiples of 2 to the 64th. -/
structure Wr (w : Int → Int) : Prop where
  out : ∀ x, ∃ k : Int, w x = x + k * 18446744073709551616
  eq : ∀ x y k : Int, x = y + k * 18446744073709551616 → w x = w y
section
variable {w : Int → Int} (hw : Wr w)
include hw
theorem Wr.addl (x y : Int) : w (w x + y) = w (x + y) := by obtain ⟨k, hk⟩ := hw.out x; exact hw.eq _ _ k (by omega)
theorem Wr.subl (x y : Int) : w (w x - y) = w (x - y) := by obtain ⟨k, hk⟩ := hw.out x; exact hw.eq _ _ k (by omega)
theorem Wr.addr (x y : Int) : w (x + w y) = w (x + y) := by obtain ⟨k, hk⟩ := hw.out y; exact hw.eq _ _ k (by omega)
theorem Wr.subr (x y : Int) : w (x - w y) = w (x - y) := by obtain ⟨k, hk⟩ := hw.out y; exact hw.eq _ _ (-k) (by omega)
theorem Wr.twice (x : Int) : w (w x) = w x := by obtain ⟨k, hk⟩ := hw.out x; exact hw.eq _ _ k (by omega)
end

theorem itAt_set {run : List Itm} {i j : Nat} {it : Itm} (h : i < run.length) : itAt (run.set i it) j = if i = j then it else itAt run j := by
  unfold itAt
  simp only [List.getD_eq_getElem?_getD, List.getElem?_set]
  by_cases e : i = j
  · subst e; simp [h]
  · simp [e]
theorem gAt_it {run : List Itm} {i : Nat} : i < run.length → gAt run i = (itAt run i).g := fun h => by
  unfold gAt itAt; simp [h]
theorem gAt_same {r s : List Itm} (hl : r.length = s.length) (h : ∀ i, i < s.length → (itAt r i).g = (itAt s i).g) (i : Nat) : gAt r i = gAt s i := by
  by_cases hi : i < s.length
  · rw [gAt_it hi, gAt_it (by omega), h i hi]
  · unfold gAt; rw [List.getElem?_eq_none (by omega), List.getElem?_eq_none (by omega)]
theorem fAt_it {run : List Itm} {i : Nat} : i < run.length → fAt run i = (itAt run i).f := fun h => by
  unfold fAt itAt; simp [h]
theorem run_ext {r s : List Itm} (hl : r.length = s.length) (h : ∀ i, i < r.length → itAt r i = itAt s i) : r = s := by
  apply List.ext_getElem hl
  intro i h1 h2
  have := h i h1
  unfold itAt at this
  simpa [h1, h2] using this

/-- What stays of an item. -/
def keyI' (it : Itm) : Int × Int × Int := (it.g, it.c, it.f)
def hidB (F : Fnt) (ign : Bool) (run : List Itm) (i : Nat) : Bool := ign && isMark F (gAt run i)
/-- The last item that was seen ahead of a place, and the advances since. -/
def scan (w : Int → Int) (F : Fnt) (ign : Bool) (run : List Itm) : Nat → Int × Int
  | 0 => (-1, 0)
  | i + 1 => if hidB F ign run i then ((scan w F ign run i).1, w ((scan w F ign run i).2 + (itAt run i).a)) else ((i : Int), 0)
theorem scan_congr {w : Int → Int} {F : Fnt} {ign : Bool} {r s : List Itm} {n : Nat} (hg : ∀ i, i < n → gAt r i = gAt s i) (ha : ∀ i, i < n → hidB F ign s i = true → (itAt r i).a = (itAt s i).a) : scan w F ign r n = scan w F ign s n := by
  induction n with
  | zero => rfl
  | succ n ih =>
    have e := ih (fun i hi => hg i (by omega)) (fun i hi => ha i (by omega))
    have eh : hidB F ign r n = hidB F ign s n := by unfold hidB; rw [hg n (by omega)]
    rw [scan, scan, e, eh]
    split
    · rename_i h; rw [ha n (by omega) h]
    · rfl
theorem scan_lt (w : Int → Int) (F : Fnt) (ign : Bool) (run : List Itm) (n : Nat) : (scan w F ign run n).1 < n ∧ -1 ≤ (scan w F ign run n).1 := by
  induction n with
  | zero => simp [scan]
  | succ n ih => rw [scan]; split <;> simp <;> omega
theorem scan_seen {w : Int → Int} {F : Fnt} {ign : Bool} {run : List Itm} {n : Nat} (h : 0 ≤ (scan w F ign run n).1) : hidB F ign run (scan w F ign run n).1.toNat = false := by
  induction n with
  | zero => simp [scan] at h
  | succ n ih =>
    rw [scan] at h ⊢
    by_cases hh : hidB F ign run n = true
    · rw [if_pos hh] at h ⊢; exact ih h
    · rw [if_neg hh]; simpa using hh
theorem scan_last {w : Int → Int} {F : Fnt} {ign : Bool} {run : List Itm} {n b : Nat} (hb : b < n) (hs : hidB F ign run b = false) : (b : Int) ≤ (scan w F ign run n).1 := by
  induction n with
  | zero => omega
  | succ n ih =>
    rw [scan]
    by_cases hh : hidB F ign run n = true
    · rw [if_pos hh]
      have : b ≠ n := fun e => by subst e; rw [hs] at hh; cases hh
      exact ih (by omega)
    · rw [if_neg hh]; show (b : Int) ≤ n; omega

/-- The items up to a place are joined. -/
def Jnd (w : Int → Int) (F : Fnt) (ign : Bool) (run : List Itm) (n : Nat) : Prop :=
  ∀ b, b < n → hidB F ign run b = false → ∀ a : Nat, (scan w F ign run b).1 = (a : Int) → ∀ ex ey nx ny, anchorL F (gAt run a) 4 0 = some (ex, ey) → anchorL F (gAt run b) 3 0 = some (nx, ny) →
    (itAt run a).a = w (w (w (w ((itAt run a).x + ex) - nx) - (itAt run b).x) - (scan w F ign run b).2) ∧ (itAt run b).y = w (w ((itAt run a).y + ey) - ny)

theorem joinA_ln (w : Int → Int) (F : Fnt) (run : List Itm) (a b : Nat) (t : Int) : (joinA w F run a b t).length = run.length := by
  unfold joinA; split <;> simp
/-- What a join does with each item. -/
theorem joinA_at {w : Int → Int} {F : Fnt} {run : List Itm} {a b : Nat} {t : Int} (hab : a < b) (hb : b < run.length) (j : Nat) :
    itAt (joinA w F run a b t) j = match anchorL F (gAt run a) 4 0, anchorL F (gAt run b) 3 0 with
      | some (ex, ey), some (nx, ny) => if j = a then { itAt run a with a := w (w (w (w ((itAt run a).x + ex) - nx) - (itAt run b).x) - t) } else if j = b then { itAt run b with y := w (w ((itAt run a).y + ey) - ny) } else itAt run j
      | _, _ => itAt run j := by
  unfold joinA
  rcases h1 : anchorL F (gAt run a) 4 0 with _ | ⟨ex, ey⟩
  · rfl
  · rcases h2 : anchorL F (gAt run b) 3 0 with _ | ⟨nx, ny⟩
    · rfl
    · dsimp only
      rw [itAt_set (by simp; omega), itAt_set (by omega), itAt_set (by omega), itAt_set (by omega)]
      by_cases e1 : j = a
      · subst e1; rw [if_neg (by omega), if_pos rfl, if_pos rfl]
      · rw [if_neg e1]
        by_cases e2 : j = b
        · subst e2
          simp only [if_true, if_neg (show ¬ a = j by omega)]
        · rw [if_neg (fun h => e2 h.symm), if_neg (fun h => e1 h.symm), if_neg e2]

def cursFold (w : Int → Int) (F : Fnt) (ign : Bool) (run : List Itm) (n : Nat) : Int × Int × List Itm := (List.range n).foldl (cursStep w F ign) (-1, 0, run)
theorem cursFold_succ (w : Int → Int) (F : Fnt) (ign : Bool) (run : List Itm) (n : Nat) : cursFold w F ign run (n + 1) = cursStep w F ign (cursFold w F ign run n) n := by
  unfold cursFold; rw [List.range_succ, List.foldl_append]; rfl
theorem cursL_fold (w : Int → Int) (F : Fnt) (ign : Bool) (run : List Itm) : cursL w F ign run = (cursFold w F ign run run.length).2.2 := rfl

structure CInv (w : Int → Int) (F : Fnt) (ign : Bool) (run : List Itm) (n : Nat) (st : Int × Int × List Itm) : Prop where
  sc : (st.1, st.2.1) = scan w F ign run n
  len : st.2.2.length = run.length
  key : ∀ i, i < run.length → (itAt st.2.2 i).g = (itAt run i).g ∧ (itAt st.2.2 i).c = (itAt run i).c ∧ (itAt st.2.2 i).f = (itAt run i).f ∧ (itAt st.2.2 i).x = (itAt run i).x
  hid : ∀ i, hidB F ign run i = true → itAt st.2.2 i = itAt run i
  jnd : Jnd w F ign st.2.2 n
theorem CInv.g {w : Int → Int} {F : Fnt} {ign : Bool} {run : List Itm} {n : Nat} {st : Int × Int × List Itm} (h : CInv w F ign run n st) (i : Nat) : gAt st.2.2 i = gAt run i := gAt_same h.len (fun j hj => (h.key j hj).1) i
theorem CInv.hb {w : Int → Int} {F : Fnt} {ign : Bool} {run : List Itm} {n : Nat} {st : Int × Int × List Itm} (h : CInv w F ign run n st) (i : Nat) : hidB F ign st.2.2 i = hidB F ign run i := by unfold hidB; rw [h.g]
theorem CInv.scan {w : Int → Int} {F : Fnt} {ign : Bool} {run : List Itm} {n : Nat} {st : Int × Int × List Itm} (h : CInv w F ign run n st) (m : Nat) : YtbjcbcdccekbkaaGreat.scan w F ign st.2.2 m = YtbjcbcdccekbkaaGreat.scan w F ign run m :=
  scan_congr (fun i _ => h.g i) (fun i _ hi => by rw [h.hid i hi])
theorem cursFold_inv (w : Int → Int) (F : Fnt) (ign : Bool) (run : List Itm) (n : Nat) (hn : n ≤ run.length) : CInv w F ign run n (cursFold w F ign run n) := by
  induction n with
  | zero => exact ⟨rfl, rfl, fun _ _ => ⟨rfl, rfl, rfl, rfl⟩, fun _ _ => rfl, fun b hb => by omega⟩
  | succ n ih =>
    have H := ih (by omega)
    rw [cursFold_succ]
    generalize cursFold w F ign run n = st at H
    obtain ⟨h, t, r⟩ := st
    have hsc := H.sc
    dsimp only at hsc
    unfold cursStep
    dsimp only
    by_cases hh : hidB F ign run n = true
    · have hh' : (ign && isMark F (gAt r n)) = true := by have := H.hb n; unfold hidB at this hh; rw [this]; exact hh
      rw [if_pos hh']
      refine ⟨?_, H.len, H.key, H.hid, fun b hb hs => ?_⟩
      · rw [YtbjcbcdccekbkaaGreat.scan, if_pos hh, ← hsc]
        show (h, w (t + (itAt r n).a)) = (h, w (t + (itAt run n).a))
        rw [H.hid n hh]
      · by_cases e : b = n
        · subst e; have := H.hb b; rw [hh] at this; dsimp only at this hs; rw [this] at hs; cases hs
        · exact H.jnd b (by omega) hs
    · have hh' : (ign && isMark F (gAt r n)) = false := by have := H.hb n; unfold hidB at this hh; rw [this]; simpa using hh
      rw [if_neg (by rw [hh']; simp)]
      have hnew : YtbjcbcdccekbkaaGreat.scan w F ign run (n + 1) = ((n : Int), 0) := by rw [YtbjcbcdccekbkaaGreat.scan, if_neg hh]
      have hl : r.length = run.length := H.len
      by_cases h0 : 0 ≤ h
      · rw [if_pos h0]
        obtain ⟨a, rfl⟩ : ∃ a : Nat, h = a := ⟨h.toNat, by omega⟩
        rw [Int.toNat_natCast]
        have hbd := scan_lt w F ign run n
        rw [← hsc] at hbd
        dsimp only at hbd
        have han : a < n := by omega
        have hat := fun j => joinA_at (w := w) (F := F) (run := r) (t := t) han (by omega) j
        have hseen : hidB F ign run a = false := by
          have := scan_seen (w := w) (F := F) (ign := ign) (run := run) (n := n) (by rw [← hsc]; exact h0)
          rw [← hsc] at this; simpa using this
        have hkey : ∀ j, (itAt (joinA w F r a n t) j).g = (itAt r j).g ∧ (itAt (joinA w F r a n t) j).c = (itAt r j).c ∧ (itAt (joinA w F r a n t) j).f = (itAt r j).f ∧ (itAt (joinA w F r a n t) j).x = (itAt r j).x := fun j => by
          rw [hat j]
          split
          · split
            · rename_i e; subst e; exact ⟨rfl, rfl, rfl, rfl⟩
            · split
              · rename_i e; subst e; exact ⟨rfl, rfl, rfl, rfl⟩
              · exact ⟨rfl, rfl, rfl, rfl⟩
          · exact ⟨rfl, rfl, rfl, rfl⟩
        have hoth : ∀ j, j ≠ a → j ≠ n → itAt (joinA w F r a n t) j = itAt r j := fun j h1 h2 => by
          rw [hat j]; split
          · rw [if_neg h1, if_neg h2]
          · rfl
        have hY : ∀ j, j ≠ n → (itAt (joinA w F r a n t) j).y = (itAt r j).y := fun j h1 => by
          rw [hat j]; split
          · split
            · rename_i e; subst e; rfl
            · first | rfl | rw [if_neg h1]
          · rfl
        have hA : ∀ j, j ≠ a → (itAt (joinA w F r a n t) j).a = (itAt r j).a := fun j h1 => by
          rw [hat j]; split
          · rw [if_neg h1]; split
            · rename_i e; subst e; rfl
            · rfl
          · rfl
        have K : CInv w F ign run n ((a : Int), t, joinA w F r a n t) → CInv w F ign run (n + 1) ((n : Int), 0, joinA w F r a n t) := fun K => ⟨by rw [hnew], K.len, K.key, K.hid, fun b hb hs x hx ex ey nx ny h1 h2 => by
          by_cases e : b = n
          · subst e
            rw [K.scan, ← hsc] at hx
            have hx' : (a : Int) = x := hx
            have hx' : x = a := by omega
            subst hx'
            have g1 : gAt (joinA w F r x b t) x = gAt r x := (K.g x).trans (H.g x).symm
            have g2 : gAt (joinA w F r x b t) b = gAt r b := (K.g b).trans (H.g b).symm
            dsimp only at h1 h2
            rw [g1] at h1
            rw [g2] at h2
            have ea := hat x
            have eb := hat b
            rw [h1, h2] at ea eb
            dsimp only at ea eb
            rw [if_pos rfl] at ea
            rw [if_neg (by omega), if_pos rfl] at eb
            dsimp only
            rw [K.scan, ← hsc, ea, eb]
            exact ⟨rfl, rfl⟩
          · exact K.jnd b (by omega) hs x hx ex ey nx ny h1 h2⟩
        refine K ⟨hsc, by simp only [joinA_ln]; exact H.len, fun i hi => ?_, fun i hi => ?_, ?_⟩
        · obtain ⟨k1, k2, k3, k4⟩ := hkey i
          obtain ⟨m1, m2, m3, m4⟩ := H.key i hi
          exact ⟨k1.trans m1, k2.trans m2, k3.trans m3, k4.trans m4⟩
        · refine (hoth i (fun e => ?_) (fun e => ?_)).trans (H.hid i hi)
          · subst e; rw [hseen] at hi; cases hi
          · subst e; exact hh hi
        · intro b hb hs x hx ex ey nx ny h1 h2
          have hgg : ∀ j, gAt (joinA w F r a n t) j = gAt r j := fun j => gAt_same (joinA_ln ..) (fun j _ => (hkey j).1) j
          have hhb : ∀ j, hidB F ign (joinA w F r a n t) j = hidB F ign r j := fun j => by unfold hidB; rw [hgg]
          have hsn : ∀ m, YtbjcbcdccekbkaaGreat.scan w F ign (joinA w F r a n t) m = YtbjcbcdccekbkaaGreat.scan w F ign r m := fun m => scan_congr (fun i _ => hgg i) (fun i _ hi => by
            rw [hA i (fun e => by subst e; rw [H.hb i, hseen] at hi; cases hi)])
          dsimp only at hs hx h1 h2 ⊢
          rw [hhb] at hs
          rw [hsn] at hx
          rw [hgg] at h1 h2
          have J := H.jnd b hb hs x hx ex ey nx ny h1 h2
          dsimp only at J
          have hs' : hidB F ign run b = false := by rw [← H.hb b]; exact hs
          have hba := scan_last (w := w) hb hs'
          rw [← hsc] at hba
          dsimp only at hba
          have hxb := scan_lt w F ign r b
          rw [hx] at hxb
          rw [hsn, hA x (by omega), hY b (by omega), hY x (by omega), (hkey x).2.2.2, (hkey b).2.2.2]
          exact J
      · rw [if_neg h0]
        refine ⟨by rw [hnew], H.len, H.key, H.hid, fun b hb hs x hx => ?_⟩
        by_cases e : b = n
        · subst e
          rw [H.scan, ← hsc] at hx
          dsimp only at hx
          omega
        · exact H.jnd b (by omega) hs x hx

theorem cursL_inv (w : Int → Int) (F : Fnt) (ign : Bool) (run : List Itm) : CInv w F ign run run.length ((cursFold w F ign run run.length).1, (cursFold w F ign run run.length).2.1, cursL w F ign run) := cursFold_inv w F ign run run.length (Nat.le_refl _)
theorem cursL_len (w : Int → Int) (F : Fnt) (ign : Bool) (run : List Itm) : (cursL w F ign run).length = run.length := (cursL_inv w F ign run).len
theorem cursL_jnd (w : Int → Int) (F : Fnt) (ign : Bool) (run : List Itm) : Jnd w F ign (cursL w F ign run) (cursL w F ign run).length := by rw [cursL_len]; exact (cursL_inv w F ign run).jnd

/-- What is joined stays as it is. -/
theorem cursL_fix {w : Int → Int} {F : Fnt} {ign : Bool} {R : List Itm} (h : Jnd w F ign R R.length) : cursL w F ign R = R := by
  have key : ∀ n, n ≤ R.length → cursFold w F ign R n = ((scan w F ign R n).1, (scan w F ign R n).2, R) := by
    intro n
    induction n with
    | zero => intro _; rfl
    | succ n ih =>
      intro hn
      rw [cursFold_succ, ih (by omega)]
      unfold cursStep
      dsimp only
      rw [scan]
      by_cases hh : hidB F ign R n = true
      · rw [if_pos (by unfold hidB at hh; exact hh), if_pos hh]
      · rw [if_neg (by unfold hidB at hh; exact hh), if_neg hh]
        dsimp only
        by_cases h0 : 0 ≤ (scan w F ign R n).1
        · rw [if_pos h0]
          have hb := scan_lt w F ign R n
          obtain ⟨a, ha⟩ : ∃ a : Nat, (scan w F ign R n).1 = a := ⟨(scan w F ign R n).1.toNat, by omega⟩
          rw [ha, Int.toNat_natCast]
          have J := h n (by omega) (by simpa using hh) a ha
          have e : joinA w F R a n (scan w F ign R n).2 = R := by
            refine run_ext (joinA_ln ..) fun j hj => ?_
            rw [joinA_at (by omega) (by omega)]
            split
            · rename_i ex ey nx ny h1 h2
              obtain ⟨j1, j2⟩ := J ex ey nx ny h1 h2
              split
              · rename_i e; subst e; rw [← j1]
              · split
                · rename_i e; subst e; rw [← j2]
                · rfl
            · rfl
          rw [e]
        · rw [if_neg h0]
  rw [cursL_fold, key _ (Nat.le_refl _)]
theorem cursL_twice (w : Int → Int) (F : Fnt) (ign : Bool) (run : List Itm) : cursL w F ign (cursL w F ign run) = cursL w F ign run := cursL_fix (cursL_jnd w F ign run)

/-- A run that stands higher. -/
def upI (w : Int → Int) (d : Int) (it : Itm) : Itm := { it with y := w (it.y + d) }
def upR (w : Int → Int) (d : Int) (run : List Itm) : List Itm := run.map (upI w d)
theorem upR_len (w : Int → Int) (d : Int) (run : List Itm) : (upR w d run).length = run.length := by simp [upR]
theorem upR_at {w : Int → Int} {d : Int} {run : List Itm} {i : Nat} (h : i < run.length) : itAt (upR w d run) i = upI w d (itAt run i) := by
  unfold itAt upR; simp [h]
theorem upR_g (w : Int → Int) (d : Int) (run : List Itm) (i : Nat) : gAt (upR w d run) i = gAt run i := by
  unfold gAt upR; rw [List.getElem?_map, Option.map_map]; rfl
theorem upR_f (w : Int → Int) (d : Int) (run : List Itm) (i : Nat) : fAt (upR w d run) i = fAt run i := by
  unfold fAt upR; rw [List.getElem?_map, Option.map_map]; rfl
theorem joinA_up {w : Int → Int} (hw : Wr w) (d : Int) (F : Fnt) (run : List Itm) {a b : Nat} (t : Int) (hab : a < b) (hb : b < run.length) : joinA w F (upR w d run) a b t = upR w d (joinA w F run a b t) := by
  refine run_ext (by simp [joinA_ln, upR_len]) fun j hj => ?_
  rw [joinA_ln, upR_len] at hj
  rw [joinA_at hab (by rw [upR_len]; exact hb), upR_at (run := joinA w F run a b t) (by rw [joinA_ln]; exact hj), joinA_at hab hb, upR_g, upR_g, upR_at (run := run) (i := a) (by omega), upR_at (run := run) (i := b) hb, upR_at (run := run) (i := j) hj]
  rcases h1 : anchorL F (gAt run a) 4 0 with _ | ⟨ex, ey⟩
  · rfl
  · rcases h2 : anchorL F (gAt run b) 3 0 with _ | ⟨nx, ny⟩
    · rfl
    · dsimp only
      split
      · rfl
      · split
        · unfold upI
          dsimp only
          congr 1
          simp only [hw.addl, hw.subl]
          congr 1; omega
        · rfl
theorem cursL_up {w : Int → Int} (hw : Wr w) (d : Int) (F : Fnt) (ign : Bool) (run : List Itm) : cursL w F ign (upR w d run) = upR w d (cursL w F ign run) := by
  have key : ∀ n, n ≤ run.length → cursFold w F ign (upR w d run) n = ((cursFold w F ign run n).1, (cursFold w F ign run n).2.1, upR w d (cursFold w F ign run n).2.2) := by
    intro n
    induction n with
    | zero => intro _; rfl
    | succ n ih =>
      intro hn
      have H := cursFold_inv w F ign run n (by omega)
      rw [cursFold_succ, cursFold_succ, ih (by omega)]
      generalize cursFold w F ign run n = st at H
      obtain ⟨h, t, r⟩ := st
      have hl : r.length = run.length := H.len
      unfold cursStep
      dsimp only
      rw [upR_g, upR_at (by omega)]
      split
      · rfl
      · dsimp only
        split
        · rename_i h0
          have hb := scan_lt w F ign run n
          have hsc := H.sc
          dsimp only at hsc
          rw [← hsc] at hb
          dsimp only at hb
          rw [joinA_up hw d F r t (by omega) (by omega)]
        · rfl
  rw [cursL_fold, cursL_fold, upR_len, key _ (Nat.le_refl _)]


/-- Where a mark hangs, and by which anchor. -/
def hostS (F : Fnt) (g : Int) (bs : Int → Option Bas) : Bas × Anc := pickL (hostsL (ancOf F g) bs) ⟨-1, 0, 0⟩ default
theorem hangL_eq (w : Int → Int) (F : Fnt) (run : List Itm) (i : Nat) (pens : List Int) (bs : Int → Option Bas) : hangL w F run i pens bs = if (hostS F (gAt run i) bs).1.p < 0 then run else
    run.set i { itAt run i with a := 0, x := w (w (w (w (pens.getD (hostS F (gAt run i) bs).1.p.toNat 0 + (itAt run (hostS F (gAt run i) bs).1.p.toNat).x) + (hostS F (gAt run i) bs).1.x) - pens.getD i 0) - (hostS F (gAt run i) bs).2.x), y := w (w ((itAt run (hostS F (gAt run i) bs).1.p.toNat).y + (hostS F (gAt run i) bs).1.y) - (hostS F (gAt run i) bs).2.y) } := rfl
theorem hangL_len (w : Int → Int) (F : Fnt) (run : List Itm) (i : Nat) (pens : List Int) (bs : Int → Option Bas) : (hangL w F run i pens bs).length = run.length := by
  rw [hangL_eq]; split <;> simp
/-- The bases lie ahead of a place. -/
def BsOK (bs : Int → Option Bas) (i : Int) : Prop := ∀ c b, bs c = some b → 0 ≤ b.p ∧ b.p < i
theorem BsOK.up {bs : Int → Option Bas} {i j : Int} (h : BsOK bs i) (hij : i ≤ j) : BsOK bs j := fun c b hb => ⟨(h c b hb).1, by have := (h c b hb).2; omega⟩
theorem pick_mem (ys : List (Anc × Bas)) (s : Bas × Anc) : pickL ys s.1 s.2 = s ∨ ∃ x ∈ ys, pickL ys s.1 s.2 = (x.2, x.1) := by
  induction ys generalizing s with
  | nil => exact .inl rfl
  | cons x t ih =>
    have e : pickL (x :: t) s.1 s.2 = pickL t (if s.1.p < x.2.p then (x.2, x.1) else s).1 (if s.1.p < x.2.p then (x.2, x.1) else s).2 := rfl
    rw [e]
    rcases ih (if s.1.p < x.2.p then (x.2, x.1) else s) with h | ⟨y, hy, h⟩
    · rw [h]
      split
      · exact .inr ⟨x, List.mem_cons_self .., rfl⟩
      · exact .inl rfl
    · exact .inr ⟨y, List.mem_cons_of_mem _ hy, h⟩
theorem hosts_mem {anc : List Anc} {bs : Int → Option Bas} {x : Anc × Bas} (hx : x ∈ hostsL anc bs) : x.1 ∈ anc ∧ x.1.k = 2 ∧ bs x.1.c = some x.2 := by
  unfold hostsL at hx
  obtain ⟨a, ha1, ha⟩ := List.mem_filterMap.1 hx
  split at ha
  · rename_i hk
    obtain ⟨b, hb, rfl⟩ := Option.map_eq_some_iff.1 ha
    exact ⟨ha1, hk, hb⟩
  · cases ha
theorem hostS_lt {F : Fnt} {g : Int} {bs : Int → Option Bas} {i : Int} (h : BsOK bs i) (h0 : ¬ (hostS F g bs).1.p < 0) : (hostS F g bs).1.p < i := by
  rcases pick_mem (hostsL (ancOf F g) bs) (⟨-1, 0, 0⟩, default) with e | ⟨x, hx, e⟩
  · exfalso
    apply h0
    show (pickL (hostsL (ancOf F g) bs) ⟨-1, 0, 0⟩ default).1.p < 0
    rw [show pickL (hostsL (ancOf F g) bs) ⟨-1, 0, 0⟩ default = ((⟨-1, 0, 0⟩ : Bas), default) from e]
    show (-1 : Int) < 0
    omega
  · show (pickL (hostsL (ancOf F g) bs) ⟨-1, 0, 0⟩ default).1.p < i
    rw [show pickL (hostsL (ancOf F g) bs) ⟨-1, 0, 0⟩ default = (x.2, x.1) from e]
    exact (h _ _ (hosts_mem hx).2.2).2
theorem offer1_ok {i : Nat} {bs : Int → Option Bas} {j : Int} (h : BsOK bs j) (hj : (i : Int) < j) (a : Anc) : BsOK (offer1 i bs a) j := by
  unfold offer1
  split
  · have hp : BsOK (putB bs a.c ⟨i, a.x, a.y⟩) j := by
      intro c b hb
      unfold putB at hb
      split at hb
      · injection hb with hb; subst hb; exact ⟨by show (0 : Int) ≤ (i : Int); omega, hj⟩
      · exact h c b hb
    split
    · split
      · exact h
      · exact hp
    · exact hp
  · exact h
theorem offerL_ok (anc : List Anc) {i : Nat} {bs : Int → Option Bas} {j : Int} (h : BsOK bs j) (hj : (i : Int) < j) : BsOK (offerL anc i bs) j := by
  unfold offerL
  induction anc generalizing bs with
  | nil => exact h
  | cons a t ih => exact ih (offer1_ok h hj a)

def marksFold (w : Int → Int) (F : Fnt) (ign : Bool) (run : List Itm) (n : Nat) : MSt := (List.range n).foldl (markStep w F ign) ⟨fun _ => none, List.replicate run.length 0, 0, run⟩
theorem marksFold_succ (w : Int → Int) (F : Fnt) (ign : Bool) (run : List Itm) (n : Nat) : marksFold w F ign run (n + 1) = markStep w F ign (marksFold w F ign run n) n := by
  unfold marksFold; rw [List.range_succ, List.foldl_append]; rfl
theorem marksL_fold (w : Int → Int) (F : Fnt) (ign : Bool) (run : List Itm) : marksL w F ign run = (marksFold w F ign run run.length).run := rfl
/-- What the run is behind a step. -/
def stepRun (w : Int → Int) (F : Fnt) (s : MSt) (i : Nat) : List Itm := if isMark F (gAt s.run i) then hangL w F s.run i (s.pens.set i s.pen) s.bs else s.run
theorem markStep_run (w : Int → Int) (F : Fnt) (ign : Bool) (s : MSt) (i : Nat) : (markStep w F ign s i).run = stepRun w F s i := rfl
theorem stepRun_len (w : Int → Int) (F : Fnt) (s : MSt) (i : Nat) : (stepRun w F s i).length = s.run.length := by
  unfold stepRun; split
  · exact hangL_len ..
  · rfl
theorem stepRun_other (w : Int → Int) (F : Fnt) (s : MSt) {i j : Nat} (h : j ≠ i) (hi : i < s.run.length) : itAt (stepRun w F s i) j = itAt s.run j := by
  unfold stepRun; split
  · rw [hangL_eq]; split
    · rfl
    · rw [itAt_set hi, if_neg (fun e => h e.symm)]
  · rfl
theorem stepRun_key (w : Int → Int) (F : Fnt) (s : MSt) (i j : Nat) (hi : i < s.run.length) : (itAt (stepRun w F s i) j).g = (itAt s.run j).g ∧ (itAt (stepRun w F s i) j).c = (itAt s.run j).c ∧ (itAt (stepRun w F s i) j).f = (itAt s.run j).f := by
  by_cases e : j = i
  · subst e
    unfold stepRun; split
    · rw [hangL_eq]; split
      · exact ⟨rfl, rfl, rfl⟩
      · rw [itAt_set hi, if_pos rfl]; exact ⟨rfl, rfl, rfl⟩
    · exact ⟨rfl, rfl, rfl⟩
  · rw [stepRun_other w F s e hi]; exact ⟨rfl, rfl, rfl⟩
def stepBs (F : Fnt) (ign : Bool) (s : MSt) (i : Nat) : Int → Option Bas :=
  if !isMark F (gAt s.run i) || !ign then offerL (ancOf F (gAt s.run i)) i (if isMark F (gAt s.run i) then s.bs else fun _ => none) else (if isMark F (gAt s.run i) then s.bs else fun _ => none)
theorem gAt_step (w : Int → Int) (F : Fnt) (s : MSt) {i : Nat} (j : Nat) (hi : i < s.run.length) : gAt (stepRun w F s i) j = gAt s.run j := gAt_same (stepRun_len ..) (fun j _ => (stepRun_key w F s i j hi).1) j
theorem markStep_eq (w : Int → Int) (F : Fnt) (ign : Bool) (s : MSt) (i : Nat) (hi : i < s.run.length) : markStep w F ign s i = ⟨stepBs F ign s i, s.pens.set i s.pen, w (s.pen + (itAt (stepRun w F s i) i).a), stepRun w F s i⟩ := by
  have hg := gAt_step w F s i hi
  show MSt.mk (if !isMark F (gAt s.run i) || !ign then offerL (ancOf F (gAt (stepRun w F s i) i)) i (if isMark F (gAt s.run i) then s.bs else fun _ => none) else (if isMark F (gAt s.run i) then s.bs else fun _ => none)) (s.pens.set i s.pen) (w (s.pen + (itAt (stepRun w F s i) i).a)) (stepRun w F s i) = _
  rw [hg]; rfl
theorem stepBs_ok {F : Fnt} {ign : Bool} {s : MSt} {i : Nat} (h : BsOK s.bs i) : BsOK (stepBs F ign s i) ((i : Int) + 1) := by
  have h1 : BsOK (if isMark F (gAt s.run i) then s.bs else fun _ => none) ((i : Int) + 1) := by
    split
    · exact h.up (by omega)
    · intro c b hb; cases hb
  unfold stepBs
  split
  · exact offerL_ok _ h1 (by omega)
  · exact h1

structure MInv (w : Int → Int) (F : Fnt) (run : List Itm) (n : Nat) (s : MSt) : Prop where
  len : s.run.length = run.length
  key : ∀ i, (itAt s.run i).g = (itAt run i).g ∧ (itAt s.run i).c = (itAt run i).c ∧ (itAt s.run i).f = (itAt run i).f
  rest : ∀ i, n ≤ i → itAt s.run i = itAt run i
  bs : BsOK s.bs n
theorem MInv.g {w : Int → Int} {F : Fnt} {run : List Itm} {n : Nat} {s : MSt} (h : MInv w F run n s) (i : Nat) : gAt s.run i = gAt run i := gAt_same h.len (fun j _ => (h.key j).1) i
theorem marksFold_inv (w : Int → Int) (F : Fnt) (ign : Bool) (run : List Itm) (n : Nat) (hn : n ≤ run.length) : MInv w F run n (marksFold w F ign run n) := by
  induction n with
  | zero => exact ⟨rfl, fun _ => ⟨rfl, rfl, rfl⟩, fun _ _ => rfl, fun c b hb => by cases hb⟩
  | succ n ih =>
    have H := ih (by omega)
    rw [marksFold_succ]
    generalize marksFold w F ign run n = s at H
    have hl := H.len
    rw [markStep_eq w F ign s n (by omega)]
    refine ⟨by show (stepRun w F s n).length = _; rw [stepRun_len, hl], fun i => ?_, fun i hi => ?_, ?_⟩
    · obtain ⟨a, b, c⟩ := stepRun_key w F s n i (by omega)
      obtain ⟨a', b', c'⟩ := H.key i
      exact ⟨a.trans a', b.trans b', c.trans c'⟩
    · show itAt (stepRun w F s n) i = _
      rw [stepRun_other w F s (by omega) (by omega)]; exact H.rest i (by omega)
    · have := stepBs_ok (F := F) (ign := ign) H.bs
      show BsOK (stepBs F ign s n) ((n + 1 : Nat) : Int)
      rw [show ((n + 1 : Nat) : Int) = (n : Int) + 1 by omega]
      exact this
/-- What was done with an item is not undone. -/
theorem marksFold_stays (w : Int → Int) (F : Fnt) (ign : Bool) (run : List Itm) (n m : Nat) (hm : n + m ≤ run.length) (j : Nat) (hj : j < n) : itAt (marksFold w F ign run (n + m)).run j = itAt (marksFold w F ign run n).run j := by
  induction m with
  | zero => rfl
  | succ m ih =>
    have H := marksFold_inv w F ign run (n + m) (by omega)
    have hl := H.len
    rw [← Nat.add_assoc, marksFold_succ, markStep_run, stepRun_other w F _ (by omega) (by omega)]
    exact ih (by omega)
theorem marksL_len (w : Int → Int) (F : Fnt) (ign : Bool) (run : List Itm) : (marksL w F ign run).length = run.length := (marksFold_inv w F ign run _ (Nat.le_refl _)).len
theorem marksL_g (w : Int → Int) (F : Fnt) (ign : Bool) (run : List Itm) (i : Nat) : gAt (marksL w F ign run) i = gAt run i := (marksFold_inv w F ign run _ (Nat.le_refl _)).g i
theorem marksL_at (w : Int → Int) (F : Fnt) (ign : Bool) (run : List Itm) (n j : Nat) (hn : n ≤ run.length) (hj : j < n) : itAt (marksL w F ign run) j = itAt (marksFold w F ign run n).run j := by
  rw [marksL_fold]
  have := marksFold_stays w F ign run n (run.length - n) (by omega) j hj
  rw [show n + (run.length - n) = run.length by omega] at this
  exact this
theorem marksFold_again (w : Int → Int) (F : Fnt) (ign : Bool) (run : List Itm) (n : Nat) (hn : n ≤ run.length) : marksFold w F ign (marksL w F ign run) n = ⟨(marksFold w F ign run n).bs, (marksFold w F ign run n).pens, (marksFold w F ign run n).pen, marksL w F ign run⟩ := by
  induction n with
  | zero => show MSt.mk _ (List.replicate (marksL w F ign run).length 0) _ _ = _; rw [marksL_len]; rfl
  | succ n ih =>
    have H := marksFold_inv w F ign run n (by omega)
    have hlt := fun j hj => marksL_at w F ign run n j (by omega) hj
    have hat := marksL_at w F ign run (n + 1) n hn (by omega)
    rw [marksFold_succ, ih (by omega), marksFold_succ]
    rw [marksFold_succ, markStep_run] at hat
    have hgR := marksL_g w F ign run
    have hlR := marksL_len w F ign run
    generalize marksFold w F ign run n = s at H hlt hat
    generalize marksL w F ign run = R at hlt hat hgR hlR
    obtain ⟨bs, pens, pen, r⟩ := s
    have hl : r.length = run.length := H.len
    have hbs : BsOK bs n := H.bs
    have hgg : ∀ i, gAt R i = gAt r i := fun i => (hgR i).trans (H.g i).symm
    rw [markStep_eq w F ign ⟨bs, pens, pen, R⟩ n (by show n < R.length; omega), markStep_eq w F ign ⟨bs, pens, pen, r⟩ n (by show n < r.length; omega)]
    have hrun : stepRun w F ⟨bs, pens, pen, R⟩ n = R := by
      unfold stepRun at hat ⊢
      dsimp only at hat ⊢
      rw [hgg]
      split
      · rename_i hm
        rw [if_pos hm] at hat
        rw [hangL_eq] at hat ⊢
        rw [hgg]
        split
        · rfl
        · rename_i h0
          rw [if_neg h0, itAt_set (by omega), if_pos rfl] at hat
          have hk := hostS_lt hbs h0
          refine run_ext (by simp) fun j hj => ?_
          rw [itAt_set (by omega)]
          split
          · rename_i e
            subst e
            dsimp only at hlt
            rw [hlt (hostS F (gAt r n) bs).1.p.toNat (by omega)]
            rw [hat]
          · rfl
      · rfl
    rw [hrun]
    show MSt.mk (stepBs F ign ⟨bs, pens, pen, R⟩ n) (pens.set n pen) (w (pen + (itAt R n).a)) R = MSt.mk (stepBs F ign ⟨bs, pens, pen, r⟩ n) (pens.set n pen) (w (pen + (itAt (stepRun w F ⟨bs, pens, pen, r⟩ n) n).a)) R
    rw [← hat]
    have e1 : stepBs F ign ⟨bs, pens, pen, R⟩ n = stepBs F ign ⟨bs, pens, pen, r⟩ n := by
      unfold stepBs; dsimp only; rw [hgg]
    rw [e1]
theorem marksL_twice (w : Int → Int) (F : Fnt) (ign : Bool) (run : List Itm) : marksL w F ign (marksL w F ign run) = marksL w F ign run := by
  conv => lhs; rw [marksL_fold, marksL_len, marksFold_again w F ign run _ (Nat.le_refl _)]

theorem marksL_up {w : Int → Int} (hw : Wr w) (d : Int) (F : Fnt) (ign : Bool) (run : List Itm) : marksL w F ign (upR w d run) = upR w d (marksL w F ign run) := by
  have key : ∀ n, n ≤ run.length → marksFold w F ign (upR w d run) n = ⟨(marksFold w F ign run n).bs, (marksFold w F ign run n).pens, (marksFold w F ign run n).pen, upR w d (marksFold w F ign run n).run⟩ := by
    intro n
    induction n with
    | zero => intro _; show MSt.mk _ (List.replicate (upR w d run).length 0) _ _ = _; rw [upR_len]; rfl
    | succ n ih =>
      intro hn
      have H := marksFold_inv w F ign run n (by omega)
      rw [marksFold_succ, marksFold_succ, ih (by omega)]
      generalize marksFold w F ign run n = s at H
      obtain ⟨bs, pens, pen, r⟩ := s
      have hl : r.length = run.length := H.len
      have hbs : BsOK bs n := H.bs
      rw [markStep_eq w F ign ⟨bs, pens, pen, upR w d r⟩ n (by show n < (upR w d r).length; rw [upR_len]; omega), markStep_eq w F ign ⟨bs, pens, pen, r⟩ n (by show n < r.length; omega)]
      have hrun : stepRun w F ⟨bs, pens, pen, upR w d r⟩ n = upR w d (stepRun w F ⟨bs, pens, pen, r⟩ n) := by
        unfold stepRun
        dsimp only
        rw [upR_g]
        split
        · rw [hangL_eq, hangL_eq, upR_g]
          split
          · rfl
          · rename_i h0
            have hk := hostS_lt hbs h0
            refine run_ext (by simp [upR_len]) fun j hj => ?_
            have hjr : j < r.length := by simpa [upR_len] using hj
            rw [itAt_set (by rw [upR_len]; omega), upR_at (run := r.set n _) (i := j) (by simpa using hjr), itAt_set (by omega)]
            split
            · rename_i e; subst e
              rw [upR_at hjr, upR_at (run := r) (i := (hostS F (gAt r n) bs).1.p.toNat) (by omega)]
              unfold upI
              dsimp only
              congr 1
              simp only [hw.addl, hw.subl]
              congr 1; omega
            · exact upR_at hjr
        · rfl
      rw [hrun]
      have e1 : stepBs F ign ⟨bs, pens, pen, upR w d r⟩ n = stepBs F ign ⟨bs, pens, pen, r⟩ n := by
        unfold stepBs; dsimp only; rw [upR_g]
      have e2 : (itAt (upR w d (stepRun w F ⟨bs, pens, pen, r⟩ n)) n).a = (itAt (stepRun w F ⟨bs, pens, pen, r⟩ n) n).a := by
        rw [upR_at (by rw [stepRun_len]; show n < r.length; omega)]; rfl
      rw [e1, e2]
  rw [marksL_fold, marksL_fold, upR_len, key _ (Nat.le_refl _)]


theorem doL_pair {w : Int → Int} {F : Fnt} {d : Nat} {lk : Lk} {r : Rul} {ps : List Nat} {run : List Itm} (hk : lk.kind = 6) : doL w F d lk r ps run = pairL w (ps.headD 0) r.x run := by
  unfold doL; simp [hk]
theorem pairL_len (w : Int → Int) (k : Nat) (x : Int) (run : List Itm) : (pairL w k x run).length = run.length := by simp [pairL]
theorem pairL_at (w : Int → Int) (k : Nat) (x : Int) (run : List Itm) {i : Nat} (hi : i < run.length) : itAt (pairL w k x run) i = if k = i then { itAt run i with a := w ((itAt run i).a + x) } else itAt run i := by
  unfold itAt pairL
  rw [List.getD_eq_getElem?_getD, List.getD_eq_getElem?_getD, List.getElem?_modify, List.getElem?_eq_getElem hi]
  rfl
theorem pairL_key (w : Int → Int) (k : Nat) (x : Int) (run : List Itm) {i : Nat} (hi : i < run.length) : (itAt (pairL w k x run) i).g = (itAt run i).g ∧ (itAt (pairL w k x run) i).c = (itAt run i).c ∧ (itAt (pairL w k x run) i).f = (itAt run i).f ∧ (itAt (pairL w k x run) i).x = (itAt run i).x ∧ (itAt (pairL w k x run) i).y = (itAt run i).y := by
  rw [pairL_at w k x run hi]; split <;> exact ⟨rfl, rfl, rfl, rfl, rfl⟩
theorem on_keep {w : Int → Int} {F : Fnt} {lk : Lk} (hk : lk.kind = 6) (forms : List Int) (fuel : Nat) : ∀ (run : List Itm) (k : Nat), (onL w F lk forms fuel run k).length = run.length ∧ ∀ i, i < run.length → (itAt (onL w F lk forms fuel run k) i).g = (itAt run i).g ∧ (itAt (onL w F lk forms fuel run k) i).c = (itAt run i).c ∧ (itAt (onL w F lk forms fuel run k) i).f = (itAt run i).f := by
  induction fuel with
  | zero => intro run k; exact ⟨rfl, fun _ _ => ⟨rfl, rfl, rfl⟩⟩
  | succ fuel ih =>
    intro run k
    rw [onL]
    split
    · split
      · exact ih run (k + 1)
      · rename_i n ps _
        dsimp only
        rw [doL_pair hk]
        obtain ⟨h1, h2⟩ := ih (pairL w (ps.headD 0) (lk.rules.getD n default).x run) (nextL lk ps k run.length (pairL w (ps.headD 0) (lk.rules.getD n default).x run).length)
        rw [pairL_len] at h1 h2
        rw [pairL_len]
        refine ⟨h1, fun i hi => ?_⟩
        obtain ⟨a, b, c⟩ := h2 i hi
        obtain ⟨a', b', c', _⟩ := pairL_key w (ps.headD 0) (lk.rules.getD n default).x run hi
        exact ⟨a.trans a', b.trans b', c.trans c'⟩
    · exact ⟨rfl, fun _ _ => ⟨rfl, rfl, rfl⟩⟩

theorem inSets_congr {r s : List Itm} (h : ∀ i, gAt r i = gAt s i) (sets : List (List Int)) (ps : List Nat) : inSets r sets ps = inSets s sets ps := by
  induction sets generalizing ps with
  | nil => cases ps <;> rfl
  | cons a t ih =>
    cases ps with
    | nil => rfl
    | cons p ps => unfold inSets; rw [h p, ih ps]
theorem matchL_congr {F : Fnt} {lk : Lk} {r s : List Itm} (hl : r.length = s.length) (hg : ∀ i, gAt r i = gAt s i) (hf : ∀ i, fAt r i = fAt s i) (k : Int) (forms : List Int) : matchL F lk r k forms = matchL F lk s k forms := by
  have e1 : seenB F lk.ign r = seenB F lk.ign s := by funext i; unfold seenB; rw [hg]
  have e2 : ∀ r' fo ba, fits r r' fo ba = fits s r' fo ba := fun r' fo ba => by unfold fits; rw [inSets_congr hg, inSets_congr hg, inSets_congr hg]
  unfold matchL begL foreL backL
  simp only [e1, e2, hl, hf]
theorem pairL_up {w : Int → Int} (d : Int) (k : Nat) (x : Int) (run : List Itm) : pairL w k x (upR w d run) = upR w d (pairL w k x run) := by
  refine run_ext (by simp [pairL_len, upR_len]) fun j hj => ?_
  rw [pairL_len, upR_len] at hj
  rw [pairL_at w k x _ (by rw [upR_len]; exact hj), upR_at hj, upR_at (run := pairL w k x run) (by rw [pairL_len]; exact hj), pairL_at w k x run hj]
  split <;> rfl
theorem on_up {w : Int → Int} {F : Fnt} {lk : Lk} (hk : lk.kind = 6) (d : Int) (forms : List Int) (fuel : Nat) : ∀ (run : List Itm) (k : Nat), onL w F lk forms fuel (upR w d run) k = upR w d (onL w F lk forms fuel run k) := by
  induction fuel with
  | zero => intro run k; rfl
  | succ fuel ih =>
    intro run k
    rw [onL, onL, upR_len, matchL_congr (upR_len w d run) (upR_g w d run) (upR_f w d run)]
    split
    · split
      · exact ih run (k + 1)
      · rename_i n ps _
        dsimp only
        rw [doL_pair hk, doL_pair hk, pairL_up, upR_len, ih]
    · rfl

/-- What Apply does: as the lookup's kind says. -/
def attachAll (w : Int → Int) (F : Fnt) (n : Int) (run : List Itm) : List Itm :=
  match lkAt F n with
  | none => run
  | some lk => attachL w F n lk.kind run
theorem applyL_six {w : Int → Int} {F : Fnt} {n : Int} {lk : Lk} (h : lkAt F n = some lk) (hk : lk.kind = 6) (run : List Itm) (forms : List Int) : applyL w F n run forms = onL w F lk forms run.length run 0 := by
  unfold applyL; rw [h]; dsimp only; rw [if_neg (by omega), if_neg (by omega)]
theorem attachL_none {w : Int → Int} {F : Fnt} {n : Int} (h : lkAt F n = none) (k : Int) (run : List Itm) : attachL w F n k run = run := by unfold attachL; rw [h]
theorem attachL_other {w : Int → Int} {F : Fnt} {n : Int} {lk : Lk} (h : lkAt F n = some lk) {k : Int} (hk : lk.kind ≠ k) (run : List Itm) : attachL w F n k run = run := by
  unfold attachL; rw [h]; dsimp only; rw [if_neg hk]
theorem attachL_six {w : Int → Int} {F : Fnt} {n : Int} {lk : Lk} (h : lkAt F n = some lk) (hk : lk.kind = 6) (run : List Itm) : attachL w F n 6 run = onL w F lk [] run.length run 0 := by
  unfold attachL; rw [h]; dsimp only; rw [if_pos hk, if_pos rfl, applyL_six h hk]
theorem attachL_seven {w : Int → Int} {F : Fnt} {n : Int} {lk : Lk} (h : lkAt F n = some lk) (hk : lk.kind = 7) (run : List Itm) : attachL w F n 7 run = cursL w F lk.ign run := by
  unfold attachL; rw [h]; dsimp only; rw [if_pos hk, if_neg (by decide), if_pos rfl]
theorem attachL_eight {w : Int → Int} {F : Fnt} {n : Int} {lk : Lk} (h : lkAt F n = some lk) (hk : lk.kind = 8) (run : List Itm) : attachL w F n 8 run = marksL w F lk.ign run := by
  unfold attachL; rw [h]; dsimp only; rw [if_pos hk, if_neg (by decide), if_neg (by decide), if_pos rfl]
theorem attachL_rest {w : Int → Int} {F : Fnt} {n k : Int} (h6 : k ≠ 6) (h7 : k ≠ 7) (h8 : k ≠ 8) (run : List Itm) : attachL w F n k run = run := by
  unfold attachL; split
  · rfl
  · rw [if_neg h6, if_neg h7, if_neg h8]; split <;> rfl

/-- Nothing but places and advances changes. -/
def SameKey (r s : List Itm) : Prop := r.length = s.length ∧ ∀ i, i < s.length → (itAt r i).g = (itAt s i).g ∧ (itAt r i).c = (itAt s i).c ∧ (itAt r i).f = (itAt s i).f
theorem attachL_keeps (w : Int → Int) (F : Fnt) (n k : Int) (run : List Itm) : SameKey (attachL w F n k run) run := by
  have hr : SameKey run run := ⟨rfl, fun _ _ => ⟨rfl, rfl, rfl⟩⟩
  cases h : lkAt F n with
  | none => rw [attachL_none h]; exact hr
  | some lk =>
    by_cases hk : lk.kind = k
    · subst hk
      by_cases h6 : lk.kind = 6
      · rw [h6, attachL_six h h6]; exact on_keep h6 _ _ _ _
      · by_cases h7 : lk.kind = 7
        · rw [h7, attachL_seven h h7]
          exact ⟨cursL_len .., fun i hi => by obtain ⟨a, b, c, _⟩ := (cursL_inv w F lk.ign run).key i hi; exact ⟨a, b, c⟩⟩
        · by_cases h8 : lk.kind = 8
          · rw [h8, attachL_eight h h8]
            exact ⟨marksL_len .., fun i hi => (marksFold_inv w F lk.ign run _ (Nat.le_refl _)).key i⟩
          · rw [attachL_rest h6 h7 h8]; exact hr
    · rw [attachL_other h hk]; exact hr
theorem attachL_up {w : Int → Int} (hw : Wr w) (d : Int) (F : Fnt) (n k : Int) (run : List Itm) : attachL w F n k (upR w d run) = upR w d (attachL w F n k run) := by
  cases h : lkAt F n with
  | none => rw [attachL_none h, attachL_none h]
  | some lk =>
    by_cases hk : lk.kind = k
    · subst hk
      by_cases h6 : lk.kind = 6
      · rw [h6, attachL_six h h6, attachL_six h h6, upR_len]; exact on_up h6 d _ _ _ _
      · by_cases h7 : lk.kind = 7
        · rw [h7, attachL_seven h h7, attachL_seven h h7]; exact cursL_up hw d F lk.ign run
        · by_cases h8 : lk.kind = 8
          · rw [h8, attachL_eight h h8, attachL_eight h h8]; exact marksL_up hw d F lk.ign run
          · rw [attachL_rest h6 h7 h8, attachL_rest h6 h7 h8]
    · rw [attachL_other h hk, attachL_other h hk]
theorem attachL_twice7 (w : Int → Int) (F : Fnt) (n : Int) (run : List Itm) : attachL w F n 7 (attachL w F n 7 run) = attachL w F n 7 run := by
  cases h : lkAt F n with
  | none => rw [attachL_none h, attachL_none h]
  | some lk =>
    by_cases hk : lk.kind = 7
    · rw [attachL_seven h hk, attachL_seven h hk, cursL_twice]
    · rw [attachL_other h hk, attachL_other h hk]
theorem attachL_twice8 (w : Int → Int) (F : Fnt) (n : Int) (run : List Itm) : attachL w F n 8 (attachL w F n 8 run) = attachL w F n 8 run := by
  cases h : lkAt F n with
  | none => rw [attachL_none h, attachL_none h]
  | some lk =>
    by_cases hk : lk.kind = 8
    · rw [attachL_eight h hk, attachL_eight h hk, marksL_twice]
    · rw [attachL_other h hk, attachL_other h hk]
theorem attachAll_keeps (w : Int → Int) (F : Fnt) (n : Int) (run : List Itm) : SameKey (attachAll w F n run) run := by
  unfold attachAll; split
  · exact ⟨rfl, fun _ _ => ⟨rfl, rfl, rfl⟩⟩
  · exact attachL_keeps ..
theorem attachAll_up {w : Int → Int} (hw : Wr w) (d : Int) (F : Fnt) (n : Int) (run : List Itm) : attachAll w F n (upR w d run) = upR w d (attachAll w F n run) := by
  unfold attachAll; split
  · rfl
  · exact attachL_up hw ..


/-- The anchors by which a mark hangs on an item. -/
def takenA (F : Fnt) (l : List Anc) (h : Int) : Option (Anc × Int × Int) := l.findSome? fun a => if a.k = 2 then (anchorL F h 1 a.c).map fun p => (a, p.1, p.2) else none
def takenL (F : Fnt) (g h : Int) : Option (Anc × Int × Int) := takenA F (ancOf F g) h
/-- The document's host. -/
def hostR (F : Fnt) (ign : Bool) (run : List Itm) (g : Int) : Nat → Option Nat
  | 0 => none
  | k + 1 => if (takenL F g (gAt run k)).isSome && !(isMark F (gAt run k) && ign) then some k else if isMark F (gAt run k) then hostR F ign run g k else none
def markR (w : Int → Int) (F : Fnt) (ign : Bool) (out : List Itm) (i : Nat) : List Itm :=
  if isMark F (gAt out i) then
    match hostR F ign out (gAt out i) i with
    | none => out
    | some k =>
      match takenL F (gAt out i) (gAt out k) with
      | none => out
      | some (m, hx, hy) => out.set i { itAt out i with a := 0, x := w (w (w (w (widthL w (out.take k) + (itAt out k).x) + hx) - widthL w (out.take i)) - m.x), y := w (w ((itAt out k).y + hy) - m.y) }
  else out
def marksR (w : Int → Int) (F : Fnt) (ign : Bool) (run : List Itm) : List Itm := (List.range run.length).foldl (markR w F ign) run

/-- The nearest base of a class ahead of a place. -/
def nearB (F : Fnt) (ign : Bool) (run : List Itm) (c : Int) : Nat → Option Bas
  | 0 => none
  | k + 1 => match (if isMark F (gAt run k) && ign then none else anchorL F (gAt run k) 1 c) with
    | some (x, y) => some ⟨k, x, y⟩
    | none => if isMark F (gAt run k) then nearB F ign run c k else none
theorem nearB_lt {F : Fnt} {ign : Bool} {run : List Itm} {c : Int} {n : Nat} {b : Bas} (h : nearB F ign run c n = some b) : 0 ≤ b.p ∧ b.p < n := by
  induction n with
  | zero => cases h
  | succ n ih =>
    rw [nearB] at h
    split at h
    · injection h with h; subst h; exact ⟨by show (0 : Int) ≤ (n : Int); omega, by show (n : Int) < _; omega⟩
    · split at h
      · have := ih h; omega
      · cases h
theorem nearB_congr {F : Fnt} {ign : Bool} {r s : List Itm} (c : Int) (n : Nat) (h : ∀ i, gAt r i = gAt s i) : nearB F ign r c n = nearB F ign s c n := by
  induction n with
  | zero => rfl
  | succ n ih => rw [nearB, nearB, h n, ih]
theorem hostR_congr {F : Fnt} {ign : Bool} {r s : List Itm} (g : Int) (n : Nat) (h : ∀ i, gAt r i = gAt s i) : hostR F ign r g n = hostR F ign s g n := by
  induction n with
  | zero => rfl
  | succ n ih => rw [hostR, hostR, h n, ih]

theorem ancFind_cons (a : Anc) (t : List Anc) (k c : Int) : ancFind (a :: t) k c = if a.k = k ∧ a.c = c then some (a.x, a.y) else ancFind t k c := by
  unfold ancFind
  by_cases hh : a.k = k ∧ a.c = c
  · rw [if_pos hh, List.find?_cons_of_pos (by simp [hh])]; rfl
  · rw [if_neg hh, List.find?_cons_of_neg (by simpa using hh)]
theorem offerL_at (anc : List Anc) (i : Nat) (bs : Int → Option Bas) (c : Int) : offerL anc i bs c =
    (match bs c with
      | some b => if b.p = (i : Int) then some b else (match ancFind anc 1 c with | some p => some ⟨i, p.1, p.2⟩ | none => some b)
      | none => (match ancFind anc 1 c with | some p => some ⟨i, p.1, p.2⟩ | none => none)) := by
  induction anc generalizing bs with
  | nil =>
    show bs c = _
    cases h : bs c with
    | none => rfl
    | some b => dsimp only; split <;> rfl
  | cons a t ih =>
    have e : offerL (a :: t) i bs = offerL t i (offer1 i bs a) := rfl
    rw [e, ih, ancFind_cons]
    unfold offer1
    by_cases hk : a.k = 1
    · rw [if_pos hk]
      by_cases hc : a.c = c
      · subst hc
        rw [if_pos ⟨hk, rfl⟩]
        have hput : putB bs a.c ⟨i, a.x, a.y⟩ a.c = some ⟨i, a.x, a.y⟩ := by unfold putB; rw [if_pos rfl]
        cases h : bs a.c with
        | none => dsimp only; rw [hput]; dsimp only; rw [if_pos rfl]
        | some b =>
          dsimp only
          by_cases hb : b.p = (i : Int)
          · rw [if_pos hb, h]; dsimp only; rw [if_pos hb, if_pos hb]
          · rw [if_neg hb, hput]; dsimp only; rw [if_pos rfl, if_neg hb]
      · rw [if_neg (fun h => hc h.2)]
        have hput : putB bs a.c ⟨i, a.x, a.y⟩ c = bs c := by unfold putB; rw [if_neg (fun h => hc h.symm)]
        cases bs a.c with
        | none => dsimp only; rw [hput]
        | some b =>
          dsimp only
          by_cases hb : b.p = (i : Int)
          · rw [if_pos hb]
          · rw [if_neg hb, hput]
    · rw [if_neg hk, if_neg (fun h => hk h.1)]

/-- The bases are the nearest ones. -/
theorem bs_near (w : Int → Int) (F : Fnt) (ign : Bool) (run : List Itm) (n : Nat) (hn : n ≤ run.length) (c : Int) : (marksFold w F ign run n).bs c = nearB F ign run c n := by
  induction n generalizing c with
  | zero => rfl
  | succ n ih =>
    have H := marksFold_inv w F ign run n (by omega)
    have ih' := fun c => ih (by omega) c
    rw [marksFold_succ]
    generalize marksFold w F ign run n = s at H ih'
    have hl := H.len
    rw [markStep_eq w F ign s n (by omega)]
    show stepBs F ign s n c = _
    unfold stepBs
    rw [H.g, nearB]
    have hbase : ∀ c, (if isMark F (gAt run n) = true then s.bs else fun _ => none) c = if isMark F (gAt run n) then nearB F ign run c n else none := fun c => by
      split
      · exact ih' c
      · rfl
    by_cases hm : (isMark F (gAt run n) && ign) = true
    · have h1 : isMark F (gAt run n) = true := by simp at hm; exact hm.1
      have h2 : ign = true := by simp at hm; exact hm.2
      rw [if_pos hm, if_neg (by simp [h1, h2])]
      dsimp only
      exact hbase c
    · rw [if_neg hm, if_pos (by cases h1 : isMark F (gAt run n) <;> cases h2 : ign <;> simp_all)]
      rw [offerL_at, hbase c]
      have hp : ∀ b, (if isMark F (gAt run n) then nearB F ign run c n else none) = some b → b.p ≠ (n : Int) := fun b hb => by
        split at hb
        · have := nearB_lt hb; omega
        · cases hb
      unfold anchorL
      cases hx : (if isMark F (gAt run n) then nearB F ign run c n else none) with
      | none => dsimp only; cases ancFind (ancOf F (gAt run n)) 1 c with
        | none => rfl
        | some p => rfl
      | some b => dsimp only; rw [if_neg (hp b hx)]; cases ancFind (ancOf F (gAt run n)) 1 c with
        | none => rfl
        | some p => rfl

theorem pick_app (xs ys : List (Anc × Bas)) (s : Bas × Anc) : pickL (xs ++ ys) s.1 s.2 = pickL ys (pickL xs s.1 s.2).1 (pickL xs s.1 s.2).2 := by
  unfold pickL; rw [List.foldl_append]
theorem pick_stay (ys : List (Anc × Bas)) (s : Bas × Anc) (h : ∀ x ∈ ys, x.2.p ≤ s.1.p) : pickL ys s.1 s.2 = s := by
  induction ys with
  | nil => rfl
  | cons x t ih =>
    have e : pickL (x :: t) s.1 s.2 = pickL t (if s.1.p < x.2.p then (x.2, x.1) else s).1 (if s.1.p < x.2.p then (x.2, x.1) else s).2 := rfl
    have hx := h x (List.mem_cons_self ..)
    rw [e, if_neg (by omega)]
    exact ih fun y hy => h y (List.mem_cons_of_mem _ hy)
theorem pick_max (pre post : List (Anc × Bas)) (x : Anc × Bas) (s : Bas × Anc) (hs : s.1.p < x.2.p) (hpre : ∀ y ∈ pre, y.2.p < x.2.p) (hpost : ∀ y ∈ post, y.2.p ≤ x.2.p) : pickL (pre ++ x :: post) s.1 s.2 = (x.2, x.1) := by
  rw [pick_app]
  have e : ∀ t : Bas × Anc, pickL (x :: post) t.1 t.2 = pickL post (if t.1.p < x.2.p then (x.2, x.1) else t).1 (if t.1.p < x.2.p then (x.2, x.1) else t).2 := fun t => rfl
  rw [e]
  have hlt : (pickL pre s.1 s.2).1.p < x.2.p := by
    rcases pick_mem pre s with h | ⟨y, hy, h⟩
    · rw [h]; exact hs
    · rw [h]; exact hpre y hy
  rw [if_pos hlt]
  exact pick_stay post (x.2, x.1) hpost

theorem hosts_none {anc : List Anc} {bs : Int → Option Bas} (h : ∀ a ∈ anc, a.k = 2 → bs a.c = none) : hostsL anc bs = [] := by
  unfold hostsL
  rw [List.filterMap_eq_nil_iff]
  intro a ha
  split
  · rename_i hk; rw [h a ha hk]; rfl
  · rfl
theorem hosts_congr {anc : List Anc} {bs bs' : Int → Option Bas} (h : ∀ a ∈ anc, a.k = 2 → bs a.c = bs' a.c) : hostsL anc bs = hostsL anc bs' := by
  unfold hostsL
  induction anc with
  | nil => rfl
  | cons a t ih =>
    have e := ih fun x hx => h x (List.mem_cons_of_mem _ hx)
    have ea : (if a.k = 2 then (bs a.c).map fun b => (a, b) else none) = (if a.k = 2 then (bs' a.c).map fun b => (a, b) else none) := by
      split
      · rename_i hk; rw [h a (List.mem_cons_self ..) hk]
      · rfl
    rw [List.filterMap_cons, List.filterMap_cons, ea, e]
theorem takenA_none {F : Fnt} {l : List Anc} {h : Int} (ht : takenA F l h = none) : ∀ a ∈ l, a.k = 2 → anchorL F h 1 a.c = none := by
  unfold takenA at ht
  rw [List.findSome?_eq_none_iff] at ht
  intro a ha hk
  have := ht a ha
  rw [if_pos hk] at this
  simpa using this
theorem takenA_some {F : Fnt} {l : List Anc} {h : Int} {a : Anc} {x y : Int} (ht : takenA F l h = some (a, x, y)) : ∃ l1 l2, l = l1 ++ a :: l2 ∧ a.k = 2 ∧ anchorL F h 1 a.c = some (x, y) ∧ ∀ b ∈ l1, b.k = 2 → anchorL F h 1 b.c = none := by
  unfold takenA at ht
  rw [List.findSome?_eq_some_iff] at ht
  obtain ⟨l1, b, l2, e, hb, hn⟩ := ht
  split at hb
  · rename_i hk
    obtain ⟨p, hp, e2⟩ := Option.map_eq_some_iff.1 hb
    injection e2 with e3 e4
    injection e4 with e4 e5
    subst e3
    refine ⟨l1, l2, e, hk, by rw [hp, ← e4, ← e5], fun c hc hck => ?_⟩
    have := hn c hc
    rw [if_pos hck] at this
    simpa using this
  · cases hb

/-- The host that attach finds is the document's. -/
theorem hostS_near (F : Fnt) (ign : Bool) (run : List Itm) (g : Int) (n : Nat) : hostS F g (fun c => nearB F ign run c n) = match hostR F ign run g n with
    | none => (⟨-1, 0, 0⟩, default)
    | some k => match takenL F g (gAt run k) with | some (a, x, y) => (⟨k, x, y⟩, a) | none => (⟨-1, 0, 0⟩, default) := by
  have nil : ∀ bs : Int → Option Bas, (∀ a ∈ ancOf F g, a.k = 2 → bs a.c = none) → hostS F g bs = (⟨-1, 0, 0⟩, default) := fun bs h => by
    unfold hostS; rw [hosts_none h]; rfl
  induction n with
  | zero => rw [hostR]; exact nil _ fun _ _ _ => rfl
  | succ n ih =>
    rw [hostR]
    by_cases hm : (isMark F (gAt run n) && ign) = true
    · have h1 : isMark F (gAt run n) = true := by simp at hm; exact hm.1
      rw [if_neg (by simp [hm]), if_pos h1, ← ih]
      congr 1
      funext c
      rw [nearB, if_pos hm]
      dsimp only
      rw [if_pos h1]
    · have hm' : (isMark F (gAt run n) && ign) = false := by simpa using hm
      cases ht : takenL F g (gAt run n) with
      | none =>
        rw [if_neg (by simp)]
        have hno := takenA_none (show takenA F (ancOf F g) (gAt run n) = none from ht)
        have hnb : ∀ a ∈ ancOf F g, a.k = 2 → nearB F ign run a.c (n + 1) = if isMark F (gAt run n) then nearB F ign run a.c n else none := fun a ha hk => by
          rw [nearB, if_neg hm, hno a ha hk]
        by_cases h1 : isMark F (gAt run n) = true
        · rw [if_pos h1, ← ih]
          unfold hostS
          rw [hosts_congr (bs' := fun c => nearB F ign run c n) fun a ha hk => by rw [hnb a ha hk, if_pos h1]]
        · rw [if_neg h1]
          exact nil _ fun a ha hk => by rw [hnb a ha hk, if_neg h1]
      | some t =>
        obtain ⟨a, x, y⟩ := t
        rw [if_pos (by simp [hm'])]
        dsimp only
        rw [ht]
        dsimp only
        obtain ⟨l1, l2, e, hk, hax, hl1⟩ := takenA_some (show takenA F (ancOf F g) (gAt run n) = some (a, x, y) from ht)
        have hna : nearB F ign run a.c (n + 1) = some ⟨n, x, y⟩ := by rw [nearB, if_neg hm, hax]
        have hle : ∀ c b, nearB F ign run c (n + 1) = some b → b.p ≤ (n : Int) := fun c b hb => by have := nearB_lt hb; omega
        have e2 : hostsL (ancOf F g) (fun c => nearB F ign run c (n + 1)) = hostsL l1 (fun c => nearB F ign run c (n + 1)) ++ (a, ⟨n, x, y⟩) :: hostsL l2 (fun c => nearB F ign run c (n + 1)) := by
          rw [e]
          unfold hostsL
          rw [List.filterMap_append, List.filterMap_cons, if_pos hk]
          dsimp only
          rw [hna]
          rfl
        unfold hostS
        rw [e2]
        refine pick_max _ _ (a, ⟨n, x, y⟩) (⟨-1, 0, 0⟩, default) (by show (-1 : Int) < (n : Int); omega) (fun z hz => ?_) (fun z hz => hle _ _ (hosts_mem hz).2.2)
        obtain ⟨z1, z2, z3⟩ := hosts_mem hz
        have := hl1 z.1 z1 z2
        rw [nearB, if_neg hm, this] at z3
        dsimp only at z3
        split at z3
        · exact (nearB_lt z3).2
        · cases z3

theorem width_next (w : Int → Int) {run : List Itm} {j : Nat} (h : j < run.length) : widthL w (run.take (j + 1)) = w (widthL w (run.take j) + (itAt run j).a) := by
  unfold widthL itAt; rw [List.take_add_one, List.foldl_append, List.getElem?_eq_getElem h]; simp [h]
theorem take_same {r s : List Itm} (hl : r.length = s.length) {n : Nat} (h : ∀ i, i < n → itAt r i = itAt s i) : r.take n = s.take n := by
  refine run_ext (by simp [hl]) fun i hi => ?_
  have hi' : i < n ∧ i < r.length := by rw [List.length_take] at hi; omega
  have := h i hi'.1
  unfold itAt at this ⊢
  simp only [List.getD_eq_getElem?_getD, List.getElem?_take, if_pos hi'.1]
  simpa [List.getD_eq_getElem?_getD] using this

structure PInv (w : Int → Int) (n : Nat) (s : MSt) : Prop where
  pl : s.pens.length = s.run.length
  pen : s.pen = widthL w (s.run.take n)
  pens : ∀ j, j < n → s.pens.getD j 0 = widthL w (s.run.take j)
theorem marksFold_pens (w : Int → Int) (F : Fnt) (ign : Bool) (run : List Itm) (n : Nat) (hn : n ≤ run.length) : PInv w n (marksFold w F ign run n) := by
  induction n with
  | zero => exact ⟨by simp [marksFold], rfl, fun j hj => by omega⟩
  | succ n ih =>
    have H := marksFold_inv w F ign run n (by omega)
    have P := ih (by omega)
    rw [marksFold_succ]
    generalize marksFold w F ign run n = s at H P
    have hl := H.len
    rw [markStep_eq w F ign s n (by omega)]
    have htk : ∀ j, j ≤ n → (stepRun w F s n).take j = s.run.take j := fun j hj => take_same (stepRun_len ..) fun i hi => stepRun_other w F s (by omega) (by omega)
    refine ⟨by simp only [List.length_set, stepRun_len]; exact P.pl, ?_, fun j hj => ?_⟩
    · show w (s.pen + (itAt (stepRun w F s n) n).a) = widthL w ((stepRun w F s n).take (n + 1))
      rw [width_next w (by rw [stepRun_len]; omega), htk n (Nat.le_refl _), P.pen]
    · show (s.pens.set n s.pen).getD j 0 = widthL w ((stepRun w F s n).take j)
      rw [htk j (by omega), List.getD_eq_getElem?_getD, List.getElem?_set]
      by_cases e : n = j
      · subst e
        have := P.pl
        simp only [if_true, if_pos (show n < s.pens.length by omega), Option.getD_some]
        exact P.pen
      · rw [if_neg e, ← List.getD_eq_getElem?_getD]
        exact P.pens j (by omega)

theorem marks_ref (w : Int → Int) (F : Fnt) (ign : Bool) (run : List Itm) : marksL w F ign run = marksR w F ign run := by
  have key : ∀ n, n ≤ run.length → (marksFold w F ign run n).run = (List.range n).foldl (markR w F ign) run := by
    intro n
    induction n with
    | zero => intro _; rfl
    | succ n ih =>
      intro hn
      have H := marksFold_inv w F ign run n (by omega)
      have P := marksFold_pens w F ign run n (by omega)
      have B := bs_near w F ign run n (by omega)
      rw [marksFold_succ, List.range_succ, List.foldl_append, ← ih (by omega), markStep_run]
      generalize marksFold w F ign run n = s at H P B
      show stepRun w F s n = markR w F ign s.run n
      have hl := H.len
      have hpl := P.pl
      have hbs : s.bs = fun c => nearB F ign s.run c n := by
        funext c; rw [B c]; exact nearB_congr c n fun i => (H.g i).symm
      have hh := hostS_near F ign s.run (gAt s.run n) n
      rw [← hbs] at hh
      unfold stepRun markR
      split
      · have pn : (s.pens.set n s.pen).getD n 0 = widthL w (s.run.take n) := by
          rw [List.getD_eq_getElem?_getD, List.getElem?_set]
          simp only [if_true, if_pos (show n < s.pens.length by omega), Option.getD_some]
          exact P.pen
        rw [hangL_eq]
        cases hr : hostR F ign s.run (gAt s.run n) n with
        | none => rw [hr] at hh; dsimp only at hh; rw [if_pos (by rw [hh]; show (-1 : Int) < 0; omega)]
        | some k =>
          rw [hr] at hh
          dsimp only at hh ⊢
          rcases ht : takenL F (gAt s.run n) (gAt s.run k) with _ | ⟨a, x, y⟩
          · rw [ht] at hh; dsimp only at hh; rw [if_pos (by rw [hh]; show (-1 : Int) < 0; omega)]
          · rw [ht] at hh
            dsimp only at hh ⊢
            have hk := hostS_lt (F := F) (g := gAt s.run n) H.bs (by rw [hh]; show ¬ (k : Int) < 0; omega)
            rw [hh] at hk
            have hk' : (k : Int) < (n : Int) := hk
            rw [if_neg (by rw [hh]; show ¬ (k : Int) < 0; omega), hh]
            have pk : (s.pens.set n s.pen).getD k 0 = widthL w (s.run.take k) := by
              rw [List.getD_eq_getElem?_getD, List.getElem?_set, if_neg (by omega), ← List.getD_eq_getElem?_getD]
              exact P.pens k (by omega)
            dsimp only
            rw [Int.toNat_natCast, pk, pn]
      · rfl
  rw [marksL_fold, key _ (Nat.le_refl _)]; rfl

/-- The document's cursive joins. -/
def cursRS (w : Int → Int) (F : Fnt) (ign : Bool) (st : Int × List Itm) (b : Nat) : Int × List Itm :=
  if ign && isMark F (gAt st.2 b) then st
  else ((b : Int), if 0 ≤ st.1 then
      match anchorL F (gAt st.2 st.1.toNat) 4 0, anchorL F (gAt st.2 b) 3 0 with
      | some (ex, ey), some (nx, ny) =>
        let r1 := st.2.set st.1.toNat { itAt st.2 st.1.toNat with a := w (w ((itAt st.2 st.1.toNat).a + w (w (widthL w (st.2.take st.1.toNat) + (itAt st.2 st.1.toNat).x) + ex)) - w (w (widthL w (st.2.take b) + (itAt st.2 b).x) + nx)) }
        r1.set b { itAt r1 b with y := w (w ((itAt r1 st.1.toNat).y + ey) - ny) }
      | _, _ => st.2
    else st.2)
def cursR (w : Int → Int) (F : Fnt) (ign : Bool) (run : List Itm) : List Itm := ((List.range run.length).foldl (cursRS w F ign) (-1, run)).2
theorem width_scan {w : Int → Int} (hw : Wr w) (F : Fnt) (ign : Bool) (r : List Itm) (n : Nat) (hn : n ≤ r.length) : ∀ a : Nat, (scan w F ign r n).1 = (a : Int) → ∃ k : Int, widthL w (r.take n) = widthL w (r.take a) + (itAt r a).a + (scan w F ign r n).2 + k * 18446744073709551616 := by
  induction n with
  | zero => intro a ha; simp [scan] at ha
  | succ n ih =>
    intro a ha
    rw [scan] at ha ⊢
    rw [width_next w (by omega)]
    obtain ⟨q, hq⟩ := hw.out (widthL w (r.take n) + (itAt r n).a)
    by_cases hh : hidB F ign r n = true
    · rw [if_pos hh] at ha ⊢
      obtain ⟨k, hk⟩ := ih (by omega) a ha
      obtain ⟨q2, hq2⟩ := hw.out ((scan w F ign r n).2 + (itAt r n).a)
      dsimp only
      exact ⟨q + k - q2, by rw [hq, hk, hq2]; omega⟩
    · rw [if_neg hh] at ha ⊢
      dsimp only at ha ⊢
      have : a = n := by omega
      subst this
      exact ⟨q, by rw [hq]; omega⟩
theorem curs_ref {w : Int → Int} (hw : Wr w) (F : Fnt) (ign : Bool) (run : List Itm) : cursL w F ign run = cursR w F ign run := by
  have key : ∀ n, n ≤ run.length → ((cursFold w F ign run n).1, (cursFold w F ign run n).2.2) = (List.range n).foldl (cursRS w F ign) (-1, run) := by
    intro n
    induction n with
    | zero => intro _; rfl
    | succ n ih =>
      intro hn
      have H := cursFold_inv w F ign run n (by omega)
      rw [cursFold_succ, List.range_succ, List.foldl_append, ← ih (by omega)]
      generalize cursFold w F ign run n = st at H
      obtain ⟨h, t, r⟩ := st
      have hl : r.length = run.length := H.len
      show _ = cursRS w F ign (h, r) n
      unfold cursStep cursRS
      dsimp only
      split
      · rfl
      · dsimp only
        congr 1
        split
        · rename_i h0
          obtain ⟨a, rfl⟩ : ∃ a : Nat, h = a := ⟨h.toNat, by omega⟩
          have hsc := H.sc
          dsimp only at hsc
          have hs2 := H.scan n
          dsimp only at hs2
          rw [← hsc] at hs2
          obtain ⟨k, hk⟩ := width_scan hw F ign r n (by omega) a (by rw [hs2])
          rw [hs2] at hk
          dsimp only at hk
          rw [Int.toNat_natCast]
          unfold joinA
          rcases h1 : anchorL F (gAt r a) 4 0 with _ | ⟨ex, ey⟩
          · rfl
          · rcases h2 : anchorL F (gAt r n) 3 0 with _ | ⟨nx, ny⟩
            · rfl
            · dsimp only
              have e : w (w (w (w ((itAt r a).x + ex) - nx) - (itAt r n).x) - t) = w (w ((itAt r a).a + w (w (widthL w (r.take a) + (itAt r a).x) + ex)) - w (w (widthL w (r.take n) + (itAt r n).x) + nx)) := by
                simp only [hw.addl, hw.subl, hw.addr, hw.subr]
                exact hw.eq _ _ k (by rw [hk]; omega)
              rw [e]
        · rfl
  rw [cursL_fold]
  have := key _ (Nat.le_refl _)
  show _ = ((List.range run.length).foldl (cursRS w F ign) (-1, run)).2
  rw [← this]


theorem joins_ok {w : Int → Int} (hw : Wr w) {F : Fnt} {ign : Bool} {l : List Itm} (hJ : Jnd w F ign l l.length) {i a : Nat} (hi : i < l.length) (hs : hidB F ign l i = false) (ha : (scan w F ign l i).1 = (a : Int)) {ex ey nx ny : Int} (h1 : anchorL F (gAt l a) 4 0 = some (ex, ey)) (h2 : anchorL F (gAt l i) 3 0 = some (nx, ny)) :
    w (w (widthL w (l.take i) + (itAt l i).x) + nx) = w (w (widthL w (l.take a) + (itAt l a).x) + ex) ∧ w ((itAt l i).y + ny) = w ((itAt l a).y + ey) := by
  obtain ⟨j1, j2⟩ := hJ i hi hs a ha ex ey nx ny h1 h2
  obtain ⟨k, hk⟩ := width_scan hw F ign l i (by omega) a ha
  simp only [hw.subl] at j1 j2
  simp only [hw.addl]
  obtain ⟨q, hq⟩ := hw.out ((itAt l a).x + ex - nx - (itAt l i).x - (scan w F ign l i).2)
  obtain ⟨p, hp⟩ := hw.out ((itAt l a).y + ey - ny)
  refine ⟨hw.eq _ _ (k + q) (by rw [hk, j1, hq]; omega), hw.eq _ _ p (by rw [j2, hp]; omega)⟩

/-- What is known of where a run goes on. -/
structure JSt where
  opn : Bool
  wx : Int
  wy : Int
def jst (w : Int → Int) (F : Fnt) (ign : Bool) (l : List Itm) (i : Nat) : JSt :=
  if (scan w F ign l i).1 < 0 then ⟨false, 0, 0⟩
  else match anchorL F (gAt l (scan w F ign l i).1.toNat) 4 0 with
    | some (ex, ey) => ⟨true, w (w (widthL w (l.take (scan w F ign l i).1.toNat) + (itAt l (scan w F ign l i).1.toNat).x) + ex), w ((itAt l (scan w F ign l i).1.toNat).y + ey)⟩
    | none => ⟨false, w (w (widthL w (l.take (scan w F ign l i).1.toNat) + (itAt l (scan w F ign l i).1.toNat).x) + 0), w ((itAt l (scan w F ign l i).1.toNat).y + 0)⟩
theorem jst_hid {w : Int → Int} {F : Fnt} {ign : Bool} {l : List Itm} {i : Nat} (h : hidB F ign l i = true) : jst w F ign l (i + 1) = jst w F ign l i := by
  unfold jst; rw [scan, if_pos h]
theorem jst_seen {w : Int → Int} {F : Fnt} {ign : Bool} {l : List Itm} {i : Nat} (h : hidB F ign l i = false) : jst w F ign l (i + 1) = match anchorL F (gAt l i) 4 0 with
    | some (ex, ey) => ⟨true, w (w (widthL w (l.take i) + (itAt l i).x) + ex), w ((itAt l i).y + ey)⟩
    | none => ⟨false, w (w (widthL w (l.take i) + (itAt l i).x) + 0), w ((itAt l i).y + 0)⟩ := by
  unfold jst; rw [show scan w F ign l (i + 1) = ((i : Int), 0) by rw [scan, if_neg (by simp [h])], if_neg (show ¬ (i : Int) < 0 by omega), Int.toNat_natCast]
theorem jst_ok {w : Int → Int} (hw : Wr w) {F : Fnt} {ign : Bool} {l : List Itm} (hJ : Jnd w F ign l l.length) {i : Nat} (hi : i < l.length) (hs : hidB F ign l i = false) {nx ny : Int} (h2 : anchorL F (gAt l i) 3 0 = some (nx, ny)) (ho : (jst w F ign l i).opn = true) :
    w (w (widthL w (l.take i) + (itAt l i).x) + nx) = (jst w F ign l i).wx ∧ w ((itAt l i).y + ny) = (jst w F ign l i).wy := by
  unfold jst at ho ⊢
  by_cases h0 : (scan w F ign l i).1 < 0
  · rw [if_pos h0] at ho; cases ho
  · rw [if_neg h0] at ho ⊢
    obtain ⟨a, ha⟩ : ∃ a : Nat, (scan w F ign l i).1 = a := ⟨(scan w F ign l i).1.toNat, by omega⟩
    rw [ha, Int.toNat_natCast] at ho ⊢
    rcases h1 : anchorL F (gAt l a) 4 0 with _ | ⟨ex, ey⟩
    · rw [h1] at ho; cases ho
    · exact joins_ok hw hJ hi hs ha h1 h2

/-- What a marks lookup makes of each item. -/
theorem marksL_item (w : Int → Int) (F : Fnt) (ign : Bool) (run : List Itm) (i : Nat) (hi : i < run.length) : itAt (marksL w F ign run) i =
    if isMark F (gAt (marksL w F ign run) i) then
      match hostR F ign (marksL w F ign run) (gAt (marksL w F ign run) i) i with
      | none => itAt run i
      | some k =>
        match takenL F (gAt (marksL w F ign run) i) (gAt (marksL w F ign run) k) with
        | none => itAt run i
        | some (m, hx, hy) => { itAt run i with a := 0, x := w (w (w (w (widthL w ((marksL w F ign run).take k) + (itAt (marksL w F ign run) k).x) + hx) - widthL w ((marksL w F ign run).take i)) - m.x), y := w (w ((itAt (marksL w F ign run) k).y + hy) - m.y) }
    else itAt run i := by
  have H := marksFold_inv w F ign run i (by omega)
  have P := marksFold_pens w F ign run i (by omega)
  have B := bs_near w F ign run i (by omega)
  have hlt := fun j hj => marksL_at w F ign run i j (by omega) hj
  have hat := marksL_at w F ign run (i + 1) i (by omega) (by omega)
  rw [marksFold_succ, markStep_run] at hat
  have hgR := marksL_g w F ign run
  have hlR := marksL_len w F ign run
  generalize marksL w F ign run = R at *
  generalize marksFold w F ign run i = s at *
  have hl := H.len
  have hpl := P.pl
  have hgg : ∀ j, gAt s.run j = gAt R j := fun j => (H.g j).trans (hgR j).symm
  have hbs : s.bs = fun c => nearB F ign R c i := by
    funext c; rw [B c]; exact nearB_congr c i fun j => (hgR j).symm
  have hh := hostS_near F ign R (gAt R i) i
  rw [← hbs] at hh
  have htk : ∀ j, j ≤ i → s.run.take j = R.take j := fun j hj => take_same (by omega) fun q hq => (hlt q (by omega)).symm
  rw [hat]
  unfold stepRun
  rw [hgg]
  split
  · rw [hangL_eq, hgg]
    have pn : (s.pens.set i s.pen).getD i 0 = widthL w (R.take i) := by
      rw [List.getD_eq_getElem?_getD, List.getElem?_set]
      simp only [if_true, if_pos (show i < s.pens.length by omega), Option.getD_some]
      rw [P.pen, htk i (Nat.le_refl _)]
    cases hr : hostR F ign R (gAt R i) i with
    | none => rw [hr] at hh; dsimp only at hh; rw [if_pos (by rw [hh]; show (-1 : Int) < 0; omega)]; exact H.rest i (Nat.le_refl _)
    | some k =>
      rw [hr] at hh
      dsimp only at hh ⊢
      rcases ht : takenL F (gAt R i) (gAt R k) with _ | ⟨a, x, y⟩
      · rw [ht] at hh; dsimp only at hh; rw [if_pos (by rw [hh]; show (-1 : Int) < 0; omega)]; exact H.rest i (Nat.le_refl _)
      · rw [ht] at hh
        dsimp only at hh ⊢
        have hk := hostS_lt (F := F) (g := gAt R i) H.bs (by rw [hh]; show ¬ (k : Int) < 0; omega)
        rw [hh] at hk
        have hk' : (k : Int) < (i : Int) := hk
        rw [if_neg (by rw [hh]; show ¬ (k : Int) < 0; omega), hh]
        have pk : (s.pens.set i s.pen).getD k 0 = widthL w (R.take k) := by
          rw [List.getD_eq_getElem?_getD, List.getElem?_set, if_neg (by omega), ← List.getD_eq_getElem?_getD, P.pens k (by omega), htk k (by omega)]
        dsimp only
        rw [Int.toNat_natCast, pk, pn, itAt_set (by omega), if_pos rfl, H.rest i (Nat.le_refl _), hlt k (by omega)]
  · exact H.rest i (Nat.le_refl _)
theorem hostR_lt {F : Fnt} {ign : Bool} {run : List Itm} {g : Int} {n k : Nat} (h : hostR F ign run g n = some k) : k < n ∧ (takenL F g (gAt run k)).isSome = true := by
  induction n with
  | zero => cases h
  | succ n ih =>
    rw [hostR] at h
    split at h
    · rename_i hc; injection h with h; subst h; simp at hc; exact ⟨by omega, hc.1⟩
    · split at h
      · have := ih h; exact ⟨by omega, this.2⟩
      · cases h
/-- Of a mark that has a host: by which anchor it hangs. -/
theorem hangs_ok {w : Int → Int} (hw : Wr w) {F : Fnt} {ign : Bool} {run : List Itm} {i k : Nat} (hi : i < run.length) (hm : isMark F (gAt (marksL w F ign run) i) = true) (hk : hostR F ign (marksL w F ign run) (gAt (marksL w F ign run) i) i = some k) :
    (itAt (marksL w F ign run) i).a = 0 ∧ ∃ m ∈ ancOf F (gAt (marksL w F ign run) i), ∃ x y, m.k = 2 ∧ anchorL F (gAt (marksL w F ign run) k) 1 m.c = some (x, y) ∧
      w (w (widthL w ((marksL w F ign run).take i) + (itAt (marksL w F ign run) i).x) + m.x) = w (w (widthL w ((marksL w F ign run).take k) + (itAt (marksL w F ign run) k).x) + x) ∧ w ((itAt (marksL w F ign run) i).y + m.y) = w ((itAt (marksL w F ign run) k).y + y) := by
  have h := marksL_item w F ign run i hi
  rw [if_pos hm, hk] at h
  dsimp only at h
  obtain ⟨_, hs⟩ := hostR_lt hk
  rcases ht : takenL F (gAt (marksL w F ign run) i) (gAt (marksL w F ign run) k) with _ | ⟨m, x, y⟩
  · rw [ht] at hs; cases hs
  · rw [ht] at h
    dsimp only at h
    obtain ⟨l1, l2, e, hk2, hax, _⟩ := takenA_some (show takenA F (ancOf F (gAt (marksL w F ign run) i)) (gAt (marksL w F ign run) k) = some (m, x, y) from ht)
    refine ⟨by rw [h], m, by rw [e]; simp, x, y, hk2, hax, ?_, ?_⟩
    · have hx : (itAt (marksL w F ign run) i).x = w (w (w (w (widthL w ((marksL w F ign run).take k) + (itAt (marksL w F ign run) k).x) + x) - widthL w ((marksL w F ign run).take i)) - m.x) := by
        conv => lhs; rw [h]
      rw [hx]
      simp only [hw.addl, hw.subl, hw.addr]
      congr 1; omega
    · have hy : (itAt (marksL w F ign run) i).y = w (w ((itAt (marksL w F ign run) k).y + y) - m.y) := by
        conv => lhs; rw [h]
      rw [hy]
      simp only [hw.addl, hw.subl]
      congr 1; omega
theorem hangs_none {w : Int → Int} {F : Fnt} {ign : Bool} {run : List Itm} {i : Nat} (hi : i < run.length) (h : isMark F (gAt (marksL w F ign run) i) = false ∨ hostR F ign (marksL w F ign run) (gAt (marksL w F ign run) i) i = none) : itAt (marksL w F ign run) i = itAt run i := by
  rw [marksL_item w F ign run i hi]
  rcases h with h | h
  · rw [if_neg (by rw [h]; simp)]
  · split
    · rw [h]
    · rfl

end Go.Proofs.YtbjcbcdccekbkaaGreat
