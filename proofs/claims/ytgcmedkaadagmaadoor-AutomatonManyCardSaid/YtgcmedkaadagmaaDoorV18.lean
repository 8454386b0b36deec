/- Words: agree's state with its boxes; behind and next there. -/
import Derived.Test.YtgcmedkaadagmaaDoorV17
namespace Go.Proofs.YtgcmedkaadagmaaDoor
open Go.RowKit Go.Shelf Go.Maps

theorem exists_least {P : Nat → Prop} (h : ∃ n, P n) : ∃ n, P n ∧ ∀ m, P m → n ≤ m := by
  obtain ⟨n, hn⟩ := h
  induction n using Nat.strongRecOn with
  | ind n ih =>
    by_cases hs : ∃ m, m < n ∧ P m
    · obtain ⟨m, h1, h2⟩ := hs
      exact ih m h1 h2
    · exact ⟨n, hn, fun m hm => Nat.le_of_not_lt fun hl => hs ⟨m, hl, hm⟩⟩
open Classical in
/-- The least number of a kind. -/
noncomputable def leastN (P : Nat → Prop) : Nat := if h : ∃ n, P n then Classical.choose (exists_least h) else 0
theorem leastN_spec {P : Nat → Prop} (h : ∃ n, P n) : P (leastN P) := by
  unfold leastN; rw [dif_pos h]; exact (Classical.choose_spec (exists_least h)).1
theorem leastN_le {P : Nat → Prop} {n : Nat} (h : P n) : leastN P ≤ n := by
  unfold leastN; rw [dif_pos ⟨n, h⟩]; exact (Classical.choose_spec (exists_least ⟨n, h⟩)).2 n h

abbrev BX := Nat × TypeId × Array Value
/-- The state with boxes of the call's own. -/
def AGG (w W : World) (B : Nat) (r : WV) (rows : List (List (List Int))) (cls : List Int) (rv : RV) (g : GB) (s : GV) (X : List BX) : Prop :=
  Below B w W ∧ B ≤ W.heap.size ∧ ∃ (D : Nat → Prop) (la : Option Addr) (ln lc : Nat), AG W B r rows cls rv g { s with D := D, la := la, ln := ln, lc := lc } ∧
    ∀ x ∈ X, Bk W x.1 x.2.1 x.2.2 ∧ (x.2.1 = 161 → ¬ D x.1) ∧ s.ta.map (·.block) ≠ some x.1 ∧ (x.2.1 = 164 ∨ x.2.1 = 161)
section
variable {w W W' : World} {B : Nat} {r : WV} {rows : List (List (List Int))} {cls : List Int} {rv : RV} {g : GB} {s : GV} {X : List BX}
theorem AGG.call (h : AGG w W B r rows cls rv g s X) (hb : Below W.heap.size W W') : AGG w W' B r rows cls rv g s X := by
  obtain ⟨h1, h2, D, la, ln, lc, h3, h4⟩ := h
  refine ⟨h1.trans (hb.mono h2), Nat.le_trans h2 hb.size, D, la, ln, lc, h3.call hb, fun x hx => ?_⟩
  obtain ⟨k1, k2⟩ := h4 x hx
  exact ⟨k1.below hb k1.lt, k2⟩
theorem AGG.new (h : AGG w W B r rows cls rv g s X) {t : TypeId} (ht : t = 164 ∨ t = 161) (cs : Array Value) : AGG w (W.alloc (.cells cs t)) B r rows cls rv g s ((W.heap.size, t, cs) :: X) := by
  obtain ⟨h1, h2, D, la, ln, lc, h3, h4⟩ := h
  have hb : Below W.heap.size W (W.alloc (.cells cs t)) := (Below.refl _ _).alloc (Nat.le_refl _) _
  refine ⟨h1.trans (hb.mono h2), Nat.le_trans h2 hb.size, D, la, ln, lc, h3.call hb, fun x hx => ?_⟩
  rcases List.mem_cons.1 hx with rfl | hx
  · exact ⟨Bk.new _ _ _, fun _ hd => Nat.lt_irrefl _ (h3.ro.dl _ hd), fun e => Nat.lt_irrefl _ (h3.ot.blk _ e).2.1, ht⟩
  · obtain ⟨k1, k2⟩ := h4 x hx
    exact ⟨k1.below hb k1.lt, k2⟩
theorem AG.notBx (h : AG W B r rows cls rv g s) {b : Nat} {t : TypeId} {cs : Array Value} (hk : Bk W b t cs) (ht : t = 164 ∨ t = 161) : b ≠ g.P ∧ s.la.map (·.block) ≠ some b ∧ b ≠ g.RB ∧ b ≠ g.AB ∧ b ≠ g.OB ∧ b ≠ g.TB ∧ b ≠ g.mb := by
  obtain ⟨t1, t2, t3, t4, t5, t6⟩ := h.tags
  have hb := hk.tag
  have n : t + 1 ≠ 150 + 1 ∧ t + 1 ≠ 205 + 1 ∧ t + 1 ≠ 139 + 1 ∧ t + 1 ≠ 98 + 1 ∧ t + 1 ≠ 158 + 1 ∧ t + 1 ≠ 159 + 1 ∧ t + 1 ≠ 0 := by rcases ht with rfl | rfl <;> decide
  refine ⟨fun e => ?_, fun e => ?_, fun e => tag_ne hb (e ▸ t1) n.2.2.1, fun e => tag_ne hb (e ▸ t2) n.2.2.2.1, fun e => tag_ne hb (e ▸ t3) n.2.2.2.2.1, fun e => tag_ne hb (e ▸ t4) n.2.2.2.2.2.1, fun e => tag_ne hb (e ▸ t5) n.2.2.2.2.2.2⟩
  · rcases h.ro.tags (.inl e) with h1 | h1
    · exact tag_ne hb h1 n.1
    · exact tag_ne hb h1 n.2.1
  · rcases h.ro.tags (.inr e) with h1 | h1
    · exact tag_ne hb h1 n.1
    · exact tag_ne hb h1 n.2.1
/-- behind, there. -/
theorem AGG.behind (h : AGG w W B r rows cls rv g s X) (hG : GlyOK cls r.K) (hn : rows.length ≤ 64) (hK : r.K ≤ 65536) (m x c : Nat) (hm : m ≤ 900000) (hx : x < 18446744073709551616) (hc : c < r.K) :
    Calls Tryd.prog 61 #[.pointer (some ⟨g.P, 0, none⟩), .agg #[.int .i64 (m : Int), .int .u64 (x : Int)], .int .i64 (c : Int)] W fun e W' => e = .returned (.agg #[.int .i64 ((behindP rows cls (m, x) (c : Int)).1 : Int), .int .u64 ((behindP rows cls (m, x) (c : Int)).2 : Int)]) ∧ AGG w W' B r rows cls rv g s X := by
  obtain ⟨h1, h2, D, la, ln, lc, h3, h4⟩ := h
  refine (behind_c B D g.P r rows cls la ln lc m x c W h3.ro h2 hG hn hK hm hx hc).mono ?_
  rintro e W' ⟨D', la', ln', lc', rfl, post⟩
  refine ⟨rfl, h1.trans post.2.1.bl, Nat.le_trans h2 post.2.1.bl.size, D', la', ln', lc', h3.lev post, fun y hy => ?_⟩
  obtain ⟨k1, k2, k3, k4⟩ := h4 y hy
  obtain ⟨n1, n2, _⟩ := h3.notBx k1 k4
  refine ⟨post.2.1.box k1 n1 n2, fun ht hd => ?_, k3, k4⟩
  rcases post.2.1.new _ hd with h5 | h5
  · exact k2 ht h5
  · have := k1.lt; omega
theorem AGG.next (h : AGG w W B r rows cls rv g s X) {acls : List Int} {atab : List (List Int)} {ends : List Nat} (hR : IsR w (lo B) rv acls atab ends) (p q : Int) :
    Calls Tryd.prog 68 #[.agg rv.cells, .int .i64 p, .int .i64 q] W fun e W' => e = .returned (.int .i64 (stepA acls atab p q)) ∧ AGG w W' B r rows cls rv g s X := by
  refine (next_c rv acls atab ends p q W (hR.mono (lo_mono h.2.1) (kept_below h.1))).mono ?_
  rintro e W' ⟨rfl, hb⟩
  exact ⟨rfl, h.call hb⟩
theorem AGG.box (h : AGG w W B r rows cls rv g s X) {x : BX} (hx : x ∈ X) : Bk W x.1 x.2.1 x.2.2 := by
  obtain ⟨_, _, _, _, _, _, _, h4⟩ := h
  exact (h4 x hx).1
theorem AGG.store {g2 : Nat} {a0 b0 c0 : Value} (h : AGG w W B r rows cls rv g s ((g2, 161, #[a0, b0, c0]) :: X)) (hX : ∀ x ∈ X, x.2.1 = 164) (hg : B ≤ g2) (a b c : Value) :
    AGG w (((W.setCell ⟨g2, 0, none⟩ a).setCell ⟨g2, 1, none⟩ b).setCell ⟨g2, 2, none⟩ c) B r rows cls rv g s ((g2, 161, #[a, b, c]) :: X) := by
  obtain ⟨h1, h2, D, la, ln, lc, h3, h4⟩ := h
  obtain ⟨k1, k2, k3, k4⟩ := h4 _ (List.mem_cons_self ..)
  obtain ⟨n1, n2, n3, n4, n5, n6, n7⟩ := h3.notBx k1 k4
  dsimp only at k1 k2 k3 n1 n2 n3 n4 n5 n6 n7
  have kk : ∀ b', b' ≠ g2 → (((W.setCell ⟨g2, 0, none⟩ a).setCell ⟨g2, 1, none⟩ b).setCell ⟨g2, 2, none⟩ c).heap[b']? = W.heap[b']? := fun b' hb => by
    rw [Below.heap_setCell _ ⟨g2, 2, none⟩ _ b' hb, Below.heap_setCell _ ⟨g2, 1, none⟩ _ b' hb, Below.heap_setCell _ ⟨g2, 0, none⟩ _ b' hb]
  refine ⟨((h1.setCell (p := ⟨g2, 0, none⟩) hg a).setCell (p := ⟨g2, 1, none⟩) hg b).setCell (p := ⟨g2, 2, none⟩) hg c, by simpa using h2, D, la, ln, lc, h3.keep (fun b' hu => kk b' fun e => ?_) (by simp), fun x hx => ?_⟩
  · subst e
    rcases hu with hu | (hu | hu) | hu | hu | hu | hu | hu | hu
    · exact k2 rfl hu
    · exact n1 hu
    · exact n2 hu
    · exact n3 hu
    · exact n4 hu
    · exact n5 hu
    · exact n6 hu
    · exact n7 hu
    · exact k3 hu
  · rcases List.mem_cons.1 hx with rfl | hx
    · exact ⟨((k1.set_ 0 a).set_ 1 b).set_ 2 c, k2, k3, k4⟩
    · obtain ⟨q1, q2⟩ := h4 x (List.mem_cons_of_mem _ hx)
      have ht := hX x hx
      refine ⟨(kk x.1 (fun e => ?_)).trans q1, q2⟩
      have h5 := q1.tag
      rw [ht, e] at h5
      exact tag_ne h5 k1.tag (by decide)
theorem AGG.pop (h : AGG w W B r rows cls rv g s X) {t : List (PS × Nat)} {x : PS × Nat} (ht : s.todo = t ++ [x]) : AGG w (W.setCell ⟨g.TB, 0, none⟩ (.slice s.ta t.length s.tc)) B r rows cls rv g { s with todo := t } X := by
  obtain ⟨h1, h2, D, la, ln, lc, h3, h4⟩ := h
  refine ⟨h1.setCell (p := ⟨g.TB, 0, none⟩) h3.bT _, by simpa using h2, D, la, ln, lc, h3.pop ht, fun y hy => ?_⟩
  obtain ⟨k1, k2⟩ := h4 y hy
  obtain ⟨n1, n2, n3, n4, n5, n6, n7⟩ := h3.notBx k1 k2.2.2
  exact ⟨(Below.heap_setCell W ⟨g.TB, 0, none⟩ _ _ n6).trans k1, k2⟩
/-- Behind a step of agree's meet. -/
theorem AGG.meet (h : AGG w W B r rows cls rv g s X) {D : Nat → Prop} {la : Option Addr} {ln lc : Nat} (h3 : AG W B r rows cls rv g { s with D := D, la := la, ln := ln, lc := lc }) (hb : Bo B W W' g { s with D := D, la := la, ln := ln, lc := lc }) {s' : GV} (h5 : AG W' B r rows cls rv g s') (hta : ∀ b, s'.ta.map (·.block) = some b → s.ta.map (·.block) = some b ∨ W.heap.size ≤ b) {Y : List BX} (hY : ∀ x ∈ Y, x ∈ X ∧ x.2.1 = 164) : AGG w W' B r rows cls rv g s' Y := by
  obtain ⟨h1, h2, _, _, _, _, _, h4⟩ := h
  refine ⟨h1.trans hb.1, Nat.le_trans h2 hb.1.size, s'.D, s'.la, s'.ln, s'.lc, h5, fun x hx => ?_⟩
  obtain ⟨hx1, hx2⟩ := hY x hx
  obtain ⟨k1, _, k3, k4⟩ := h4 x hx1
  obtain ⟨n1, n2, n3, n4, n5, n6, n7⟩ := h3.notBx k1 k4
  refine ⟨(hb.2 x.1 k1.lt n1 n2 n6 n7 k3).trans k1, fun e => absurd (hx2.symm.trans e) (by decide), fun e => ?_, k4⟩
  rcases hta _ e with h6 | h6
  · exact k3 h6
  · have := k1.lt; omega
theorem AGG.ca (h : AGG w W B r rows cls rv g s X) (hn : 0 < cls.length) : ∃ cb co, r.ca = some ⟨cb, co, none⟩ ∧ r.cn = cls.length := by
  obtain ⟨_, _, D, la, ln, lc, h3, _⟩ := h
  have hcls := h3.ro.iw.cls
  have hl := hcls.len
  obtain ⟨b, o, e, _, _⟩ := hcls.pos (by omega)
  exact ⟨b, o, e, hl.symm⟩
/-- The last one that is yet to be gone on with. -/
theorem AGG.last (h : AGG w W B r rows cls rv g s X) {t : List (PS × Nat)} {x : PS × Nat} (ht : s.todo = t ++ [x]) : ∃ gt, s.ta = some ⟨gt, 0, none⟩ ∧ t.length + 1 ≤ s.tc ∧ s.tc ≤ 9223372036854775807 ∧ W.cell? ⟨gt, t.length * 4, none⟩ = some (.int .i64 (x.1.1.1 : Int)) ∧ W.cell? ⟨gt, t.length * 4 + 1, none⟩ = some (.int .u64 (x.1.1.2 : Int)) ∧ W.cell? ⟨gt, t.length * 4 + 2, none⟩ = some (.int .i64 x.1.2) ∧ W.cell? ⟨gt, t.length * 4 + 3, none⟩ = some (.int .u64 (x.2 : Int)) ∧
    Bk W g.TB 159 #[.slice (some ⟨gt, 0, none⟩) (t.length + 1) s.tc] := by
  obtain ⟨_, _, D, la, ln, lc, h3, _⟩ := h
  have hl : s.todo.length = t.length + 1 := by rw [ht]; simp
  have h1 := h3.ot
  have hk := h3.kt
  dsimp only at h1 hk
  obtain ⟨gt, e, _, _⟩ := h1.form (by omega)
  have hc := h1.cap
  rw [e] at h1 hk
  have ha := stC_at (todo := s.todo) (i := t.length) (x := x) (by rw [ht]; simp)
  have y0 := h1.cell (j := t.length * 4 + 0) (flat_at (stC_four _) ha rfl)
  have y1 := h1.cell (j := t.length * 4 + 1) (flat_at (stC_four _) ha rfl)
  have y2 := h1.cell (j := t.length * 4 + 2) (flat_at (stC_four _) ha rfl)
  have y3 := h1.cell (j := t.length * 4 + 3) (flat_at (stC_four _) ha rfl)
  rw [hl] at hc hk
  exact ⟨gt, e, hc.1, hc.2, y0, y1, y2, y3, hk⟩
/-- What the region reads. -/
def AGS (r : WV) (rv : RV) (g : GB) (cb co ci : Nat) (c : Int) (X : List BX) (W : World) : Prop :=
  (W.cell? ⟨g.RB, 0, none⟩ = some (.pointer (some ⟨g.P, 0, none⟩)) ∧ W.cell? ⟨g.P, 2, none⟩ = some (.slice (some ⟨cb, co, none⟩) r.cn r.cc) ∧ W.cell? ⟨cb, co + ci, none⟩ = some (.int .i64 c) ∧ W.cell? ⟨g.AB, 0, none⟩ = some (.slice rv.ca rv.cn rv.cc) ∧ W.cell? ⟨g.AB, 1, none⟩ = some (.slice rv.ta rv.tn rv.tc) ∧ W.cell? ⟨g.AB, 2, none⟩ = some (.slice rv.ea rv.en rv.ec)) ∧
  ∀ x ∈ X, ∀ (j : Nat) (v : Value), x.2.2[j]? = some v → W.cell? ⟨x.1, j, none⟩ = some v
theorem AGG.reads (h : AGG w W B r rows cls rv g s X) {cb co ci : Nat} {c : Int} (hca : r.ca = some ⟨cb, co, none⟩) (hc : cls[ci]? = some c) : AGS r rv g cb co ci c X W := by
  obtain ⟨h1, h2, D, la, ln, lc, h3, h4⟩ := h
  have hcls := h3.ro.iw.cls
  obtain ⟨b, o, e, hb, hcc⟩ := hcls.pos (by have := hcls.len; have := (List.getElem?_eq_some_iff.1 hc).1; omega)
  rw [hca] at e; injection e with e; injection e with e1 e2
  subst e1; subst e2
  obtain ⟨cs, rfl, h5⟩ := hcc ci c hc
  have x0 := h5 0 _ rfl
  rw [Nat.mul_one, Nat.add_zero] at x0
  have p2 := box_cells h3.ro.hP 2 rfl
  unfold WV.cells at p2
  refine ⟨⟨box_cells h3.kr 0 rfl, ?_, x0, box_cells h3.ka 0 rfl, box_cells h3.ka 1 rfl, box_cells h3.ka 2 rfl⟩, fun x hx j v hv => box_cells (h4 x hx).1 j hv⟩
  rw [← hca]; exact p2
end

end Go.Proofs.YtgcmedkaadagmaaDoor
