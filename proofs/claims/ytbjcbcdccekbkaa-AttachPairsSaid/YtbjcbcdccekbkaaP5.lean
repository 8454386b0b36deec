/- Plain laws: how exits lie on entries, and marks on their hosts. -/
import Derived.Test.YtbjcbcdccekbkaaP4
namespace Go.Proofs.Ytbjcbcdccekbkaa

theorem joins_ok {w : Int → Int} (hw : Wr w) {F : Fnt} {ign : Bool} {l : List Itm} (hJ : Jnd w F ign l l.length) {i a : Nat} (hi : i < l.length) (hs : hidB F ign l i = false) (ha : (scan w F ign l i).1 = (a : Int)) {ex ey nx ny : Int} (h1 : anchorL F (gAt l a) 4 0 = some (ex, ey)) (h2 : anchorL F (gAt l i) 3 0 = some (nx, ny)) :
    w (w (widthL w (l.take i) + (itAt l i).x) + nx) = w (w (widthL w (l.take a) + (itAt l a).x) + ex) ∧ w ((itAt l i).y + ny) = w ((itAt l a).y + ey) := by
  obtain ⟨j1, j2⟩ := hJ i hi hs a ha ex ey nx ny h1 h2
  obtain ⟨k, hk⟩ := width_scan hw F ign l i (by omega) a ha
  simp only [hw.subl] at j1 j2
  simp only [hw.addl]
  obtain ⟨q, hq⟩ := hw.out ((itAt l a).x + ex - nx - (itAt l i).x - (scan w F ign l i).2)
  obtain ⟨p, hp⟩ := hw.out ((itAt l a).y + ey - ny)
  refine ⟨hw.eq _ _ (k + q) (by rw [hk, j1, hq]; omega), hw.eq _ _ p (by rw [j2, hp]; omega)⟩

/-- What is known of where a run goes on. -/
structure JSt where
  opn : Bool
  wx : Int
  wy : Int
def jst (w : Int → Int) (F : Fnt) (ign : Bool) (l : List Itm) (i : Nat) : JSt :=
  if (scan w F ign l i).1 < 0 then ⟨false, 0, 0⟩
  else match anchorL F (gAt l (scan w F ign l i).1.toNat) 4 0 with
    | some (ex, ey) => ⟨true, w (w (widthL w (l.take (scan w F ign l i).1.toNat) + (itAt l (scan w F ign l i).1.toNat).x) + ex), w ((itAt l (scan w F ign l i).1.toNat).y + ey)⟩
    | none => ⟨false, w (w (widthL w (l.take (scan w F ign l i).1.toNat) + (itAt l (scan w F ign l i).1.toNat).x) + 0), w ((itAt l (scan w F ign l i).1.toNat).y + 0)⟩
theorem jst_hid {w : Int → Int} {F : Fnt} {ign : Bool} {l : List Itm} {i : Nat} (h : hidB F ign l i = true) : jst w F ign l (i + 1) = jst w F ign l i := by
  unfold jst; rw [scan, if_pos h]
theorem jst_seen {w : Int → Int} {F : Fnt} {ign : Bool} {l : List Itm} {i : Nat} (h : hidB F ign l i = false) : jst w F ign l (i + 1) = match anchorL F (gAt l i) 4 0 with
    | some (ex, ey) => ⟨true, w (w (widthL w (l.take i) + (itAt l i).x) + ex), w ((itAt l i).y + ey)⟩
    | none => ⟨false, w (w (widthL w (l.take i) + (itAt l i).x) + 0), w ((itAt l i).y + 0)⟩ := by
  unfold jst; rw [show scan w F ign l (i + 1) = ((i : Int), 0) by rw [scan, if_neg (by simp [h])], if_neg (show ¬ (i : Int) < 0 by omega), Int.toNat_natCast]
theorem jst_ok {w : Int → Int} (hw : Wr w) {F : Fnt} {ign : Bool} {l : List Itm} (hJ : Jnd w F ign l l.length) {i : Nat} (hi : i < l.length) (hs : hidB F ign l i = false) {nx ny : Int} (h2 : anchorL F (gAt l i) 3 0 = some (nx, ny)) (ho : (jst w F ign l i).opn = true) :
    w (w (widthL w (l.take i) + (itAt l i).x) + nx) = (jst w F ign l i).wx ∧ w ((itAt l i).y + ny) = (jst w F ign l i).wy := by
  unfold jst at ho ⊢
  by_cases h0 : (scan w F ign l i).1 < 0
  · rw [if_pos h0] at ho; cases ho
  · rw [if_neg h0] at ho ⊢
    obtain ⟨a, ha⟩ : ∃ a : Nat, (scan w F ign l i).1 = a := ⟨(scan w F ign l i).1.toNat, by omega⟩
    rw [ha, Int.toNat_natCast] at ho ⊢
    rcases h1 : anchorL F (gAt l a) 4 0 with _ | ⟨ex, ey⟩
    · rw [h1] at ho; cases ho
    · exact joins_ok hw hJ hi hs ha h1 h2

/-- What a marks lookup makes of each item. -/
theorem marksL_item (w : Int → Int) (F : Fnt) (ign : Bool) (run : List Itm) (i : Nat) (hi : i < run.length) : itAt (marksL w F ign run) i =
    if isMark F (gAt (marksL w F ign run) i) then
      match hostR F ign (marksL w F ign run) (gAt (marksL w F ign run) i) i with
      | none => itAt run i
      | some k =>
        match takenL F (gAt (marksL w F ign run) i) (gAt (marksL w F ign run) k) with
        | none => itAt run i
        | some (m, hx, hy) => { itAt run i with a := 0, x := w (w (w (w (widthL w ((marksL w F ign run).take k) + (itAt (marksL w F ign run) k).x) + hx) - widthL w ((marksL w F ign run).take i)) - m.x), y := w (w ((itAt (marksL w F ign run) k).y + hy) - m.y) }
    else itAt run i := by
  have H := marksFold_inv w F ign run i (by omega)
  have P := marksFold_pens w F ign run i (by omega)
  have B := bs_near w F ign run i (by omega)
  have hlt := fun j hj => marksL_at w F ign run i j (by omega) hj
  have hat := marksL_at w F ign run (i + 1) i (by omega) (by omega)
  rw [marksFold_succ, markStep_run] at hat
  have hgR := marksL_g w F ign run
  have hlR := marksL_len w F ign run
  generalize marksL w F ign run = R at *
  generalize marksFold w F ign run i = s at *
  have hl := H.len
  have hpl := P.pl
  have hgg : ∀ j, gAt s.run j = gAt R j := fun j => (H.g j).trans (hgR j).symm
  have hbs : s.bs = fun c => nearB F ign R c i := by
    funext c; rw [B c]; exact nearB_congr c i fun j => (hgR j).symm
  have hh := hostS_near F ign R (gAt R i) i
  rw [← hbs] at hh
  have htk : ∀ j, j ≤ i → s.run.take j = R.take j := fun j hj => take_same (by omega) fun q hq => (hlt q (by omega)).symm
  rw [hat]
  unfold stepRun
  rw [hgg]
  split
  · rw [hangL_eq, hgg]
    have pn : (s.pens.set i s.pen).getD i 0 = widthL w (R.take i) := by
      rw [List.getD_eq_getElem?_getD, List.getElem?_set]
      simp only [if_true, if_pos (show i < s.pens.length by omega), Option.getD_some]
      rw [P.pen, htk i (Nat.le_refl _)]
    cases hr : hostR F ign R (gAt R i) i with
    | none => rw [hr] at hh; dsimp only at hh; rw [if_pos (by rw [hh]; show (-1 : Int) < 0; omega)]; exact H.rest i (Nat.le_refl _)
    | some k =>
      rw [hr] at hh
      dsimp only at hh ⊢
      rcases ht : takenL F (gAt R i) (gAt R k) with _ | ⟨a, x, y⟩
      · rw [ht] at hh; dsimp only at hh; rw [if_pos (by rw [hh]; show (-1 : Int) < 0; omega)]; exact H.rest i (Nat.le_refl _)
      · rw [ht] at hh
        dsimp only at hh ⊢
        have hk := hostS_lt (F := F) (g := gAt R i) H.bs (by rw [hh]; show ¬ (k : Int) < 0; omega)
        rw [hh] at hk
        have hk' : (k : Int) < (i : Int) := hk
        rw [if_neg (by rw [hh]; show ¬ (k : Int) < 0; omega), hh]
        have pk : (s.pens.set i s.pen).getD k 0 = widthL w (R.take k) := by
          rw [List.getD_eq_getElem?_getD, List.getElem?_set, if_neg (by omega), ← List.getD_eq_getElem?_getD, P.pens k (by omega), htk k (by omega)]
        dsimp only
        rw [Int.toNat_natCast, pk, pn, itAt_set (by omega), if_pos rfl, H.rest i (Nat.le_refl _), hlt k (by omega)]
  · exact H.rest i (Nat.le_refl _)
theorem hostR_lt {F : Fnt} {ign : Bool} {run : List Itm} {g : Int} {n k : Nat} (h : hostR F ign run g n = some k) : k < n ∧ (takenL F g (gAt run k)).isSome = true := by
  induction n with
  | zero => cases h
  | succ n ih =>
    rw [hostR] at h
    split at h
    · rename_i hc; injection h with h; subst h; simp at hc; exact ⟨by omega, hc.1⟩
    · split at h
      · have := ih h; exact ⟨by omega, this.2⟩
      · cases h
/-- Of a mark that has a host: by which anchor it hangs. -/
theorem hangs_ok {w : Int → Int} (hw : Wr w) {F : Fnt} {ign : Bool} {run : List Itm} {i k : Nat} (hi : i < run.length) (hm : isMark F (gAt (marksL w F ign run) i) = true) (hk : hostR F ign (marksL w F ign run) (gAt (marksL w F ign run) i) i = some k) :
    (itAt (marksL w F ign run) i).a = 0 ∧ ∃ m ∈ ancOf F (gAt (marksL w F ign run) i), ∃ x y, m.k = 2 ∧ anchorL F (gAt (marksL w F ign run) k) 1 m.c = some (x, y) ∧
      w (w (widthL w ((marksL w F ign run).take i) + (itAt (marksL w F ign run) i).x) + m.x) = w (w (widthL w ((marksL w F ign run).take k) + (itAt (marksL w F ign run) k).x) + x) ∧ w ((itAt (marksL w F ign run) i).y + m.y) = w ((itAt (marksL w F ign run) k).y + y) := by
  have h := marksL_item w F ign run i hi
  rw [if_pos hm, hk] at h
  dsimp only at h
  obtain ⟨_, hs⟩ := hostR_lt hk
  rcases ht : takenL F (gAt (marksL w F ign run) i) (gAt (marksL w F ign run) k) with _ | ⟨m, x, y⟩
  · rw [ht] at hs; cases hs
  · rw [ht] at h
    dsimp only at h
    obtain ⟨l1, l2, e, hk2, hax, _⟩ := takenA_some (show takenA F (ancOf F (gAt (marksL w F ign run) i)) (gAt (marksL w F ign run) k) = some (m, x, y) from ht)
    refine ⟨by rw [h], m, by rw [e]; simp, x, y, hk2, hax, ?_, ?_⟩
    · have hx : (itAt (marksL w F ign run) i).x = w (w (w (w (widthL w ((marksL w F ign run).take k) + (itAt (marksL w F ign run) k).x) + x) - widthL w ((marksL w F ign run).take i)) - m.x) := by
        conv => lhs; rw [h]
      rw [hx]
      simp only [hw.addl, hw.subl, hw.addr]
      congr 1; omega
    · have hy : (itAt (marksL w F ign run) i).y = w (w ((itAt (marksL w F ign run) k).y + y) - m.y) := by
        conv => lhs; rw [h]
      rw [hy]
      simp only [hw.addl, hw.subl]
      congr 1; omega
theorem hangs_none {w : Int → Int} {F : Fnt} {ign : Bool} {run : List Itm} {i : Nat} (hi : i < run.length) (h : isMark F (gAt (marksL w F ign run) i) = false ∨ hostR F ign (marksL w F ign run) (gAt (marksL w F ign run) i) i = none) : itAt (marksL w F ign run) i = itAt run i := by
  rw [marksL_item w F ign run i hi]
  rcases h with h | h
  · rw [if_neg (by rw [h]; simp)]
  · split
    · rw [h]
    · rfl

end Go.Proofs.Ytbjcbcdccekbkaa
