/- Plain laws: marks play no part in lookups of single glyphs that pass over them. -/
import Derived.Test.YtkoocipagndclaaL2
namespace Go.Proofs.Ytkoocipagndclaa
open Go.RowKit Go.Shelf

def nm (F : Fnt) (it : Itm) : Bool := !isMark F it.g
def fgl (F : Fnt) (l : List Itm) : List Int := (l.filter (nm F)).map (·.g)
def inG : List (List Int) → List Int → Bool
  | [], _ => true
  | s :: ss, g :: gs => s.contains g && inG ss gs
  | _ :: _, [] => false
theorem inSets_inG (run : List Itm) : ∀ (ss : List (List Int)) (ps : List Nat), inSets run ss ps = inG ss (ps.map (gAt run))
  | [], _ => rfl
  | s :: ss, [] => rfl
  | s :: ss, p :: ps => by rw [inSets_cons, List.map_cons, inG, inSets_inG run ss ps]
def fitsG (r : Rul) (fore back : List Int) : Bool :=
  !r.inn.isEmpty && decide (r.inn.length + r.ahead.length ≤ fore.length) && decide (r.back.length ≤ back.length) && (inG r.inn fore && (inG r.ahead (fore.drop r.inn.length) && inG r.back back))
theorem fits_fitsG (run : List Itm) (r : Rul) (fore back : List Nat) : fits run r fore back = fitsG r (fore.map (gAt run)) (back.map (gAt run)) := by
  unfold fits fitsG
  rw [inSets_inG, inSets_inG, inSets_inG, List.map_drop, List.length_map, List.length_map]
theorem seen_nm {F : Fnt} {run : List Itm} {k : Nat} {it : Itm} (h : run[k]? = some it) : seenB F true run k = nm F it := by rw [seen_at h]; rfl
theorem up_glyphs (F : Fnt) (run : List Itm) : ∀ (m k : Nat), run.length - k = m → (upL (seenB F true run) run.length k).map (gAt run) = fgl F (run.drop k) := by
  intro m
  induction m with
  | zero => intro k h; rw [upL_end (by omega), List.drop_eq_nil_of_le (by omega)]; rfl
  | succ m ih =>
    intro k h
    have hk : k < run.length := by omega
    have hit : run[k]? = some run[k] := List.getElem?_eq_getElem hk
    rw [upL_step hk, List.drop_eq_getElem_cons hk, seen_nm hit]
    unfold fgl
    rw [List.filter_cons]
    have := ih (k + 1) (by omega)
    unfold fgl at this
    split
    · rw [List.map_cons, List.map_cons, this, gAt_some hit]
    · exact this
theorem dn_glyphs (F : Fnt) (run : List Itm) : ∀ k, k ≤ run.length → (dnL (seenB F true run) k).map (gAt run) = fgl F (run.take k).reverse := by
  intro k
  induction k with
  | zero => intro _; rfl
  | succ k ih =>
    intro h
    have hit : run[k]? = some run[k] := List.getElem?_eq_getElem (by omega)
    rw [dnL, seen_nm hit, List.take_add_one, hit]
    have := ih (by omega)
    unfold fgl at this ⊢
    rw [List.reverse_append]
    show _ = ((run[k] :: (run.take k).reverse).filter (nm F)).map _
    rw [List.filter_cons]
    split
    · rw [List.map_cons, List.map_cons, this, gAt_some hit]
    · exact this
/-- What a rule makes of a glyph. -/
def sgl (r : Rul) (it : Itm) : Itm := match otherL r it.g with | some g => setG it g | none => it
def newM (F : Fnt) (lk : Lk) (forms : List Int) (bs fs : List Int) (it : Itm) : Itm :=
  if nm F it && (forms.isEmpty || forms.contains it.f) then
    match firstR (fun r => fitsG r (it.g :: fs) bs) lk.rules 0 with
    | some (_, r) => sgl r it
    | none => it
  else it
theorem newM_mark {F : Fnt} {lk : Lk} {forms : List Int} {bs fs : List Int} {it : Itm} (h : nm F it = false) : newM F lk forms bs fs it = it := by unfold newM; rw [h]; rfl
theorem step_marks {w : Int → Int} {F : Fnt} {lk : Lk} {forms : List Int} (hk : lk.kind = 1 ∨ lk.kind = 5) (hi : lk.ign = true) (hin : ∀ r ∈ lk.rules, r.inn.length ≤ 1) (a b : List Itm) (it : Itm) :
    match matchL F lk (a ++ it :: b) (a.length : Int) forms with
    | none => newM F lk forms (fgl F a.reverse) (fgl F b) it = it
    | some (n, ps) => ps = [a.length] ∧ doL w F 4 lk (lk.rules.getD n default) ps (a ++ it :: b) = a ++ newM F lk forms (fgl F a.reverse) (fgl F b) it :: b := by
  have hat := at_mid a b it
  have hfore : nm F it = true → (foreL F true (a ++ it :: b) a.length).map (gAt (a ++ it :: b)) = it.g :: fgl F b := fun h => by
    unfold foreL
    rw [up_glyphs F _ _ a.length rfl, List.drop_left]
    unfold fgl
    rw [List.filter_cons, if_pos h, List.map_cons]
  have hback : (backL F true (a ++ it :: b) a.length).map (gAt (a ++ it :: b)) = fgl F a.reverse := by
    unfold backL
    rw [dn_glyphs F _ a.length (by simp), List.take_left]
  unfold matchL
  rw [begL_at hat, hi, Int.toNat_natCast]
  rw [show (!(true && isMark F it.g)) = nm F it from rfl]
  unfold newM
  by_cases hb : (nm F it && (forms.isEmpty || forms.contains it.f)) = true
  · rw [if_pos hb, if_pos hb]
    have hn := (Bool.and_eq_true_iff.1 hb).1
    have hc : firstR (fun r => fits (a ++ it :: b) r (foreL F true (a ++ it :: b) a.length) (backL F true (a ++ it :: b) a.length)) lk.rules 0 = firstR (fun r => fitsG r (it.g :: fgl F b) (fgl F a.reverse)) lk.rules 0 :=
      firstR_congr fun r _ => by rw [fits_fitsG, hfore hn, hback]
    rw [hc]
    cases hfr : firstR (fun r => fitsG r (it.g :: fgl F b) (fgl F a.reverse)) lk.rules 0 with
    | none => rfl
    | some x =>
      obtain ⟨n, r⟩ := x
      obtain ⟨_, hr, hfit⟩ := firstR_mem hfr
      have hr' : lk.rules[n]? = some r := by simpa using hr
      have hgr : lk.rules.getD n default = r := by simp [hr']
      have h1 := hin r (List.mem_of_getElem? hr')
      have h0 : r.inn.length = 1 := by
        unfold fitsG at hfit
        cases hi : r.inn with
        | nil => rw [hi] at hfit; simp at hfit
        | cons s t => rw [hi] at h1; simp at h1 ⊢; exact h1
      have hup : foreL F true (a ++ it :: b) a.length = a.length :: upL (seenB F true (a ++ it :: b)) (a ++ it :: b).length (a.length + 1) := upL_yes (by simp) (by rw [seen_nm hat]; exact hn)
      have hps : (foreL F true (a ++ it :: b) a.length).take r.inn.length = [a.length] := by rw [hup, h0]; rfl
      simp only
      rw [hps, hgr]
      refine ⟨rfl, ?_⟩
      rw [doL_single hk, List.headD_cons]
      unfold singleL sgl
      rw [gAt_some hat]
      cases otherL r it.g with
      | none => rfl
      | some g => simp only; rw [modify_mid]
  · rw [if_neg hb, if_neg hb]
/-- Item by item, with the glyphs seen so far. -/
def goM (F : Fnt) (h : List Int → List Int → Itm → Itm) : List Int → List Itm → List Itm
  | _, [] => []
  | acc, it :: b => h acc (fgl F b) it :: goM F h (if nm F (h acc (fgl F b) it) then (h acc (fgl F b) it).g :: acc else acc) b
theorem goM_len (F : Fnt) (h : List Int → List Int → Itm → Itm) : ∀ (l : List Itm) (acc : List Int), (goM F h acc l).length = l.length
  | [], _ => rfl
  | it :: b, acc => by rw [goM, List.length_cons, goM_len F h b, List.length_cons]
theorem fgl_snoc (F : Fnt) (a : List Itm) (it : Itm) : fgl F (a ++ [it]).reverse = if nm F it then it.g :: fgl F a.reverse else fgl F a.reverse := by
  unfold fgl
  rw [List.reverse_append]
  show ((it :: a.reverse).filter (nm F)).map _ = _
  rw [List.filter_cons]
  split <;> rfl
theorem fgl_cons (F : Fnt) (b : List Itm) (it : Itm) : fgl F (it :: b) = if nm F it then it.g :: fgl F b else fgl F b := by
  unfold fgl
  rw [List.filter_cons]
  split <;> rfl
theorem fgl_filter (F : Fnt) (b : List Itm) : fgl F (b.filter (nm F)) = fgl F b := by unfold fgl; rw [List.filter_filter]; simp
theorem on_marks {w : Int → Int} {F : Fnt} {lk : Lk} {forms : List Int} (hk : lk.kind = 1 ∨ lk.kind = 5) (hi : lk.ign = true) (hin : ∀ r ∈ lk.rules, r.inn.length ≤ 1) :
    ∀ (rest a : List Itm) (fuel : Nat), rest.length ≤ fuel → onL w F lk forms fuel (a ++ rest) a.length = a ++ goM F (newM F lk forms) (fgl F a.reverse) rest := by
  intro rest
  induction rest with
  | nil =>
    intro a fuel _
    cases fuel with
    | zero => simp [onL, goM]
    | succ fuel => rw [onL]; simp [goM]
  | cons it rest ih =>
    intro a fuel hfu
    obtain ⟨fuel, rfl⟩ : ∃ x, fuel = x + 1 := ⟨fuel - 1, by simp at hfu; omega⟩
    have hst := step_marks (w := w) (F := F) (forms := forms) hk hi hin a rest it
    simp only [List.length_cons] at hfu
    rw [onL, if_pos (by simp), goM]
    cases hm : matchL F lk (a ++ it :: rest) (a.length : Int) forms with
    | none =>
      rw [hm] at hst
      simp only at hst ⊢
      rw [hst, show a ++ it :: rest = (a ++ [it]) ++ rest by simp, show a.length + 1 = (a ++ [it]).length by simp, ih (a ++ [it]) fuel (by omega), fgl_snoc]
      simp
    | some x =>
      obtain ⟨n, ps⟩ := x
      rw [hm] at hst
      simp only at hst ⊢
      obtain ⟨rfl, hst⟩ := hst
      rw [hst]
      generalize newM F lk forms (fgl F a.reverse) (fgl F rest) it = it' at *
      have hnx : nextL lk [a.length] a.length (a ++ it :: rest).length (a ++ it' :: rest).length = (a ++ [it']).length := by
        unfold nextL
        simp only [List.getLastD_cons, List.getLastD_nil, List.length_append, List.length_cons, List.length_nil]
        rw [if_neg (by omega), if_neg (by omega)]
        omega
      rw [hnx, show a ++ it' :: rest = (a ++ [it']) ++ rest by simp, ih (a ++ [it']) fuel (by omega), fgl_snoc]
      simp
theorem bw_marks {w : Int → Int} {F : Fnt} {lk : Lk} {forms : List Int} (hk : lk.kind = 1 ∨ lk.kind = 5) (hi : lk.ign = true) (hin : ∀ r ∈ lk.rules, r.inn.length ≤ 1) :
    ∀ (rp done : List Itm), bwL w F lk forms rp.length (rp.reverse ++ done) = (goM F (fun x y => newM F lk forms y x) (fgl F done) rp).reverse ++ done := by
  intro rp
  induction rp with
  | nil => intro done; rfl
  | cons it rp ih =>
    intro done
    have hst := step_marks (w := w) (F := F) (forms := forms) hk hi hin rp.reverse done it
    rw [List.length_reverse, List.reverse_reverse] at hst
    rw [List.length_cons, bwL, List.reverse_cons, List.append_assoc, List.singleton_append, goM]
    cases hm : matchL F lk (rp.reverse ++ it :: done) (rp.length : Int) forms with
    | none =>
      rw [hm] at hst
      simp only at hst ⊢
      rw [ih (it :: done), hst, fgl_cons]
      simp
    | some x =>
      obtain ⟨n, ps⟩ := x
      rw [hm] at hst
      simp only at hst ⊢
      obtain ⟨rfl, hst⟩ := hst
      rw [hst]
      generalize newM F lk forms (fgl F rp) (fgl F done) it = it' at *
      rw [ih (it' :: done), fgl_cons]
      simp
/-- Those of the second row whose fellows in the first are no marks. -/
def maskL (F : Fnt) : List Itm → List Itm → List Itm
  | it :: l, x :: xs => if nm F it then x :: maskL F l xs else maskL F l xs
  | _, _ => []
/-- Marks of the first row stand in the second as they were. -/
def keepL (F : Fnt) : List Itm → List Itm → Prop
  | it :: l, x :: xs => (nm F it = false → x = it) ∧ keepL F l xs
  | _, _ => True
theorem go_law (F : Fnt) (h : List Int → List Int → Itm → Itm) (hm : ∀ a b it, nm F it = false → h a b it = it) : ∀ (l : List Itm) (acc : List Int), maskL F l (goM F h acc l) = goM F h acc (l.filter (nm F)) ∧ keepL F l (goM F h acc l)
  | [], _ => ⟨rfl, trivial⟩
  | it :: l, acc => by
    rw [goM, maskL, keepL]
    by_cases hn : nm F it = true
    · have ih := go_law F h hm l (if nm F (h acc (fgl F l) it) then (h acc (fgl F l) it).g :: acc else acc)
      rw [if_pos hn, List.filter_cons, if_pos hn, goM, fgl_filter, ih.1]
      exact ⟨rfl, fun hc => (by rw [hn] at hc; cases hc), ih.2⟩
    · have hn' : nm F it = false := by simpa using hn
      rw [if_neg hn, List.filter_cons, if_neg hn, hm _ _ _ hn', if_neg hn]
      have ih := go_law F h hm l acc
      exact ⟨ih.1, fun _ => rfl, ih.2⟩
theorem mask_snoc (F : Fnt) : ∀ (l xs : List Itm) (it x : Itm), l.length = xs.length → maskL F (l ++ [it]) (xs ++ [x]) = maskL F l xs ++ (if nm F it then [x] else [])
  | [], [], it, x, _ => by simp [maskL]
  | [], _ :: _, _, _, h => by cases h
  | _ :: _, [], _, _, h => by cases h
  | a :: l, b :: xs, it, x, h => by
    have ih := mask_snoc F l xs it x (by simpa using h)
    rw [List.cons_append, List.cons_append, maskL, maskL, ih]
    split <;> simp
theorem keep_snoc (F : Fnt) : ∀ (l xs : List Itm) (it x : Itm), l.length = xs.length → (keepL F (l ++ [it]) (xs ++ [x]) ↔ keepL F l xs ∧ (nm F it = false → x = it))
  | [], [], it, x, _ => by simp [keepL]
  | [], _ :: _, _, _, h => by cases h
  | _ :: _, [], _, _, h => by cases h
  | a :: l, b :: xs, it, x, h => by
    have ih := keep_snoc F l xs it x (by simpa using h)
    rw [List.cons_append, List.cons_append, keepL, keepL, ih, and_assoc]
theorem mask_rev (F : Fnt) : ∀ (l xs : List Itm), l.length = xs.length → maskL F l.reverse xs.reverse = (maskL F l xs).reverse ∧ (keepL F l xs → keepL F l.reverse xs.reverse)
  | [], [], _ => ⟨rfl, fun _ => trivial⟩
  | [], _ :: _, h => by cases h
  | _ :: _, [], h => by cases h
  | a :: l, b :: xs, h => by
    have h' : l.length = xs.length := by simpa using h
    obtain ⟨h1, h2⟩ := mask_rev F l xs h'
    rw [List.reverse_cons, List.reverse_cons, mask_snoc F _ _ _ _ (by simpa using h'), keep_snoc F _ _ _ _ (by simpa using h'), h1, maskL, keepL]
    refine ⟨by split <;> simp, fun ⟨h3, h4⟩ => ⟨h2 h4, h3⟩⟩
/-- RulesMarks. -/
theorem marks_law {w : Int → Int} {F : Fnt} {n : Int} {lk : Lk} {run : List Itm} {forms : List Int} (hl : lkAt F n = some lk) (hk : lk.kind = 1 ∨ lk.kind = 5) (hi : lk.ign = true) (hin : ∀ r ∈ lk.rules, r.inn.length ≤ 1) :
    (applyL w F n run forms).length = run.length ∧ keepL F run (applyL w F n run forms) ∧ maskL F run (applyL w F n run forms) = applyL w F n (run.filter (nm F)) forms := by
  have key : ∀ run, applyL w F n run forms = if lk.kind = 5 then (goM F (fun x y => newM F lk forms y x) [] run.reverse).reverse else goM F (newM F lk forms) [] run := fun run => by
    unfold applyL
    rw [hl]
    simp only
    rw [if_neg (by omega)]
    split
    · have := bw_marks (w := w) (F := F) (forms := forms) hk hi hin run.reverse []
      rw [List.reverse_reverse, List.length_reverse, List.append_nil, List.append_nil] at this
      exact this
    · have := on_marks (w := w) (F := F) (forms := forms) hk hi hin run [] run.length (Nat.le_refl _)
      simpa [fgl] using this
  rw [key, key]
  split
  · obtain ⟨g1, g2⟩ := go_law F (fun x y => newM F lk forms y x) (fun a b it h => newM_mark h) run.reverse []
    have hl2 : run.reverse.length = (goM F (fun x y => newM F lk forms y x) [] run.reverse).length := (goM_len F _ _ _).symm
    obtain ⟨m1, m2⟩ := mask_rev F run.reverse (goM F (fun x y => newM F lk forms y x) [] run.reverse) hl2
    rw [List.reverse_reverse] at m1 m2
    refine ⟨by rw [List.length_reverse, ← hl2, List.length_reverse], m2 g2, ?_⟩
    rw [m1, g1, List.filter_reverse]
  · obtain ⟨g1, g2⟩ := go_law F (newM F lk forms) (fun a b it h => newM_mark h) run []
    exact ⟨goM_len F _ _ _, g2, g1⟩

end Go.Proofs.Ytkoocipagndclaa
