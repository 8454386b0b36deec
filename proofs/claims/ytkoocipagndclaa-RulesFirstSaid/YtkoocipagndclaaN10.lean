/- Walk: the laws' only. -/
import Derived.Test.YtkoocipagndclaaX1
import Derived.Test.YtkoocipagndclaaE1
import Derived.Handy
namespace Go.Proofs.Ytkoocipagndclaa
open Go.RowKit Go.Shelf

/-- The font with one lookup put in another's place. -/
def putLk (F : Fnt) (q : Nat) (lk : Lk) : Fnt := ⟨F.gly, F.lks.set q lk⟩
theorem putLk_at {F : Fnt} {q : Nat} {l0 lk : Lk} (h : F.lks[q]? = some l0) : lkAt (putLk F q lk) (q : Int) = some lk := by
  unfold lkAt putLk
  rw [if_neg (by omega), Int.toNat_natCast, List.getElem?_set_self (List.getElem?_eq_some_iff.1 h).1]
theorem putLk_sm {F : Fnt} {q : Nat} {lk : Lk} (h : SmF F) (h1 : lk.rules.length ≤ 1000000) (h2 : ∀ r ∈ lk.rules, SmR r) : SmF (putLk F q lk) := fun l hl => by
  rcases List.mem_or_eq_of_mem_set hl with hl | hl
  · exact h l hl
  · rw [hl]; exact ⟨h1, h2⟩
theorem putLk_o {F : Fnt} {q : Nat} {lk : Lk} (h : SmO F) (h2 : ∀ r ∈ lk.rules, r.out.length ≤ 1000000) : SmO (putLk F q lk) := fun l hl => by
  rcases List.mem_or_eq_of_mem_set hl with hl | hl
  · exact h l hl
  · rw [hl]; exact h2
theorem font_put {W : World} {f : FV} {F : Fnt} (h : IsF W (lo W.heap.size) f F) {A : Option Addr} {n c : Nat} {lks : List Lk} (h1 : RdL W (lo W.heap.size) A n lks) (h2 : Hd n c) : IsF W (lo W.heap.size) { f with la := A, ln := n, lc := c } ⟨F.gly, lks⟩ := ⟨h.1, h1, h.2.2.1, h2⟩
theorem SlE.drop' {α : Type} {k : Nat} {E : List Value → α → Prop} {w : World} {S : Nat → Prop} {b o n : Nat} {xs : List α} (h : SlE k E w S (some ⟨b, o, none⟩) n xs) (p : Nat) (hp : p < n) : SlE k E w S (some ⟨b, o + p * k, none⟩) (n - p) (xs.drop p) :=
  ⟨by rw [List.length_drop, h.1], fun _ => by
    obtain ⟨b', o', e, hb, hc⟩ := h.2 (by omega)
    injection e with e
    injection e with e1 e2
    subst e1; subst e2
    refine ⟨_, _, rfl, hb, fun i x hx => ?_⟩
    rw [List.getElem?_drop] at hx
    obtain ⟨cs, h1, h2⟩ := hc (p + i) x hx
    refine ⟨cs, h1, fun j v hv => ?_⟩
    have := h2 j v hv
    rw [show o + p * k + i * k + j = o + (p + i) * k + j by rw [Nat.add_mul]; omega]
    exact this⟩
theorem one_rule {rs : List Rul} {a : Nat} {r : Rul} (h : rs[a]? = some r) : (rs.take (a + 1)).drop a = [r] := by
  obtain ⟨hl, rfl⟩ := List.getElem?_eq_some_iff.1 h
  rw [List.take_add_one, h]
  rw [List.drop_append_of_le_length (by rw [List.length_take]; omega)]
  simp
def OnlyP (w : World) (f : FV) (F' : Fnt) (e : Ending) (w' : World) : Prop := ∃ g c, e = .returned (.agg ({ f with la := some ⟨g, 0, none⟩, ln := f.ln, lc := c } : FV).cells) ∧ IsF w' (lo w'.heap.size) { f with la := some ⟨g, 0, none⟩, ln := f.ln, lc := c } F' ∧ Below w.heap.size w w'
section
variable {w : World}
set_option maxRecDepth 100000 in
set_option maxHeartbeats 4000000 in
theorem only1_c (f : FV) (F : Fnt) (q : Nat) (lk : Lk) (hlk : F.lks[q]? = some lk) (a b : Nat) (hab : a < b) (hbl : b ≤ lk.rules.length) (hf : IsF w (lo w.heap.size) f F) (h40 : f.ln ≤ 40) (h12 : lk.rules.length ≤ 12) :
    Calls Try.prog 23 #[.agg f.cells, .int .i64 (q : Int), .int .i64 (a : Int), .int .i64 (b : Int)] w (OnlyP w f (putLk F q ⟨lk.kind, lk.ign, (lk.rules.take b).drop a⟩)) := by
  have HLK := Lib.hid hlk
  have hqN : q < f.ln := by have := hf.2.1.len; have := (List.getElem?_eq_some_iff.1 hlk).1; omega
  have qz : (0 : Int) ≤ (q : Int) := by omega
  have ql : (q : Int) < (f.ln : Int) := by omega
  have HF := Lib.hid hf
  have HBL := Lib.hid hbl
  have HR12 := Lib.hid h12
  have bE : Below w.heap.size w (((w.alloc (.cells #[.int .i64 f.u0, .slice f.ga f.gn f.gc, .slice f.ca f.cn f.cc, .slice f.la f.ln f.lc, .slice f.a4 f.n4 f.c4, .slice f.a5 f.n5 f.c5, .slice f.a6 f.n6 f.c6, .slice f.a7 f.n7 f.c7, .slice f.a8 f.n8 f.c8] 31)).alloc (.cells #[.int .i64 0, .slice none 0 0, .slice none 0 0, .slice none 0 0, .slice none 0 0, .slice none 0 0, .slice none 0 0, .slice none 0 0, .slice none 0 0] 31)).alloc (.cells #[] 44)) := allocs_below [.cells #[.int .i64 f.u0, .slice f.ga f.gn f.gc, .slice f.ca f.cn f.cc, .slice f.la f.ln f.lc, .slice f.a4 f.n4 f.c4, .slice f.a5 f.n5 f.c5, .slice f.a6 f.n6 f.c6, .slice f.a7 f.n7 f.c7, .slice f.a8 f.n8 f.c8] 31, .cells #[.int .i64 0, .slice none 0 0, .slice none 0 0, .slice none 0 0, .slice none 0 0, .slice none 0 0, .slice none 0 0, .slice none 0 0, .slice none 0 0] 31, .cells #[] 44] w w (Below.refl _ _)
  have kf : Bk (((w.alloc (.cells #[.int .i64 f.u0, .slice f.ga f.gn f.gc, .slice f.ca f.cn f.cc, .slice f.la f.ln f.lc, .slice f.a4 f.n4 f.c4, .slice f.a5 f.n5 f.c5, .slice f.a6 f.n6 f.c6, .slice f.a7 f.n7 f.c7, .slice f.a8 f.n8 f.c8] 31)).alloc (.cells #[.int .i64 0, .slice none 0 0, .slice none 0 0, .slice none 0 0, .slice none 0 0, .slice none 0 0, .slice none 0 0, .slice none 0 0, .slice none 0 0] 31)).alloc (.cells #[] 44)) w.heap.size 31 #[.int .i64 f.u0, .slice f.ga f.gn f.gc, .slice f.ca f.cn f.cc, .slice f.la f.ln f.lc, .slice f.a4 f.n4 f.c4, .slice f.a5 f.n5 f.c5, .slice f.a6 f.n6 f.c6, .slice f.a7 f.n7 f.c7, .slice f.a8 f.n8 f.c8] := allocs_at [.cells #[.int .i64 f.u0, .slice f.ga f.gn f.gc, .slice f.ca f.cn f.cc, .slice f.la f.ln f.lc, .slice f.a4 f.n4 f.c4, .slice f.a5 f.n5 f.c5, .slice f.a6 f.n6 f.c6, .slice f.a7 f.n7 f.c7, .slice f.a8 f.n8 f.c8] 31, .cells #[.int .i64 0, .slice none 0 0, .slice none 0 0, .slice none 0 0, .slice none 0 0, .slice none 0 0, .slice none 0 0, .slice none 0 0, .slice none 0 0] 31, .cells #[] 44] w 0 _ rfl
  have kr : Bk (((w.alloc (.cells #[.int .i64 f.u0, .slice f.ga f.gn f.gc, .slice f.ca f.cn f.cc, .slice f.la f.ln f.lc, .slice f.a4 f.n4 f.c4, .slice f.a5 f.n5 f.c5, .slice f.a6 f.n6 f.c6, .slice f.a7 f.n7 f.c7, .slice f.a8 f.n8 f.c8] 31)).alloc (.cells #[.int .i64 0, .slice none 0 0, .slice none 0 0, .slice none 0 0, .slice none 0 0, .slice none 0 0, .slice none 0 0, .slice none 0 0, .slice none 0 0] 31)).alloc (.cells #[] 44)) (w.heap.size + 1) 31 #[.int .i64 0, .slice none 0 0, .slice none 0 0, .slice none 0 0, .slice none 0 0, .slice none 0 0, .slice none 0 0, .slice none 0 0, .slice none 0 0] := allocs_at [.cells #[.int .i64 f.u0, .slice f.ga f.gn f.gc, .slice f.ca f.cn f.cc, .slice f.la f.ln f.lc, .slice f.a4 f.n4 f.c4, .slice f.a5 f.n5 f.c5, .slice f.a6 f.n6 f.c6, .slice f.a7 f.n7 f.c7, .slice f.a8 f.n8 f.c8] 31, .cells #[.int .i64 0, .slice none 0 0, .slice none 0 0, .slice none 0 0, .slice none 0 0, .slice none 0 0, .slice none 0 0, .slice none 0 0, .slice none 0 0] 31, .cells #[] 44] w 1 _ rfl
  have oE := own_empty ((w.alloc (.cells #[.int .i64 f.u0, .slice f.ga f.gn f.gc, .slice f.ca f.cn f.cc, .slice f.la f.ln f.lc, .slice f.a4 f.n4 f.c4, .slice f.a5 f.n5 f.c5, .slice f.a6 f.n6 f.c6, .slice f.a7 f.n7 f.c7, .slice f.a8 f.n8 f.c8] 31)).alloc (.cells #[.int .i64 0, .slice none 0 0, .slice none 0 0, .slice none 0 0, .slice none 0 0, .slice none 0 0, .slice none 0 0, .slice none 0 0, .slice none 0 0] 31)) 44 3
  rw [World.size_alloc, World.size_alloc] at oE
  have HSE := Lib.hid (show w.heap.size + 1 + 1 ≤ (((w.alloc (.cells #[.int .i64 f.u0, .slice f.ga f.gn f.gc, .slice f.ca f.cn f.cc, .slice f.la f.ln f.lc, .slice f.a4 f.n4 f.c4, .slice f.a5 f.n5 f.c5, .slice f.a6 f.n6 f.c6, .slice f.a7 f.n7 f.c7, .slice f.a8 f.n8 f.c8] 31)).alloc (.cells #[.int .i64 0, .slice none 0 0, .slice none 0 0, .slice none 0 0, .slice none 0 0, .slice none 0 0, .slice none 0 0, .slice none 0 0, .slice none 0 0] 31)).alloc (.cells #[] 44)).heap.size by simp)
  obtain ⟨css, hrow, hnl, hnews⟩ := RowOf.news (SlE.mono hf.2.1 (fun _ h => h) (kept_below bE) (fun _ _ h => h)) elk_len
  have HROW := Lib.hid hrow
  have HNL := Lib.hid hnl
  have HNW := Lib.hid hnews
  have HONE := Lib.hid (hrow.one_cells elk_one)
  obtain ⟨cs, hcs, ⟨LA, ln, lc, hce, hRR, hRd⟩, _⟩ := hrow.at hlk
  subst hce
  have HCS := Lib.hid hcs
  have HRR := Lib.hid hRR
  have HLN := Lib.hid hRR.len
  have HLC := Lib.hid hRd
  have bz : (0 : Int) ≤ (b : Int) := by omega
  have blc : (b : Int) ≤ (lc : Int) := by have := hRR.len; have := hRd.1; omega
  clear hrow hnl hnews hcs hlk hf hbl h12
  obtain ⟨rb, ro, hLA, _, _⟩ := hRR.pos (by have := HLN.out; have := HBL.out; omega)
  subst hLA
  have az : (0 : Int) ≤ (a : Int) := by omega
  have ab : (a : Int) ≤ (b : Int) := by omega
  have hlca : ¬ lc = a := by have := HBL.out; have := HLN.out; have := HLC.out.1; omega
  have HAB := Lib.hid hab
  clear hab
  clear hRR hRd
  unfold FV.cells
  go_enter Try.func23, Try.ntmps23
  go_upto_region 2 with fail
  generalize ((w.alloc (.cells #[.int .i64 f.u0, .slice f.ga f.gn f.gc, .slice f.ca f.cn f.cc, .slice f.la f.ln f.lc, .slice f.a4 f.n4 f.c4, .slice f.a5 f.n5 f.c5, .slice f.a6 f.n6 f.c6, .slice f.a7 f.n7 f.c7, .slice f.a8 f.n8 f.c8] 31)).alloc (.cells #[.int .i64 0, .slice none 0 0, .slice none 0 0, .slice none 0 0, .slice none 0 0, .slice none 0 0, .slice none 0 0, .slice none 0 0, .slice none 0 0] 31)).alloc (.cells #[] 44) = w1 at *
  have z3 : w1.cell? ⟨w.heap.size, 3, none⟩ = some (.slice f.la f.ln f.lc) := kf.cell 3
  go_upto_region 3 with (at_builtin; refine appP elt_look rfl _ _ rfl _ (w.heap.size + 1 + 1) _ _ _ [] _ _ _ css.flatten (by rfl) (by rfl) oE HNL.out HNW.out HONE.out (by omega) HSE.out ?_; intro A2 c2 w2 o2 hg hb hat)
  rw [Nat.zero_add] at o2
  replace o2 : Ow 44 3 w2 (w.heap.size + 1 + 1) A2 f.ln c2 css.flatten := o2
  obtain ⟨g2, hA2, hgb, hgl⟩ := o2.form (by omega)
  subst hA2
  have kf2 := kf.below hb (by omega)
  have kr2 := kr.below hb (by omega)
  have b2 := bE.trans (hb.mono (by omega))
  have lq : w2.cell? ⟨g2, q * 3 + 2, none⟩ = some (.slice (some ⟨rb, ro, none⟩) ln lc) := o2.cell (flat_at HROW.out.2.1 HCS.out rfl)
  have lf : w2.frozen? ⟨g2, q * 3 + 2, none⟩ = false := o2.frozen _
  clear z3 oE bE kf kr hg hb hat HNL HNW HONE HSE
  go_upto_region 4 with fail
  have o3 := o2.put HROW.out HCS.out (j := 2) (by omega) (.slice (some ⟨rb, ro + a * 6, none⟩) (b - a) (lc - a))
  have b3 : Below w.heap.size w (w2.setCell ⟨g2, q * 3 + 2, none⟩ (.slice (some ⟨rb, ro + a * 6, none⟩) (b - a) (lc - a))) := b2.setCell (p := ⟨g2, q * 3 + 2, none⟩) (by show w.heap.size ≤ g2; omega) _
  have kf3 := kf2.far (p := ⟨g2, q * 3 + 2, none⟩) (by show w.heap.size ≠ g2; omega) (.slice (some ⟨rb, ro + a * 6, none⟩) (b - a) (lc - a))
  have kr3 := kr2.far (p := ⟨g2, q * 3 + 2, none⟩) (by show w.heap.size + 1 ≠ g2; omega) (.slice (some ⟨rb, ro + a * 6, none⟩) (b - a) (lc - a))
  clear lq lf o2 b2 kf2 kr2 hgl
  generalize w2.setCell ⟨g2, q * 3 + 2, none⟩ (.slice (some ⟨rb, ro + a * 6, none⟩) (b - a) (lc - a)) = w3 at *
  have z3 : w3.cell? ⟨w.heap.size, 3, none⟩ = some (.slice f.la f.ln f.lc) := kf3.cell 3
  have zf := kf3.frozen 3
  go_upto_region 5 with fail
  have kf4 : Bk (w3.setCell ⟨w.heap.size, 3, none⟩ (.slice (some ⟨g2, 0, none⟩) f.ln c2)) w.heap.size 31 #[.int .i64 f.u0, .slice f.ga f.gn f.gc, .slice f.ca f.cn f.cc, .slice (some ⟨g2, 0, none⟩) f.ln c2, .slice f.a4 f.n4 f.c4, .slice f.a5 f.n5 f.c5, .slice f.a6 f.n6 f.c6, .slice f.a7 f.n7 f.c7, .slice f.a8 f.n8 f.c8] := kf3.set_ 3 _
  have kr4 := kr3.far (p := ⟨w.heap.size, 3, none⟩) (by show w.heap.size + 1 ≠ w.heap.size; omega) (.slice (some ⟨g2, 0, none⟩) f.ln c2)
  have o4 := o3.setOther (p := ⟨w.heap.size, 3, none⟩) (fun b e => by injection e with e; injection e with e; show b ≠ w.heap.size; omega) (.slice (some ⟨g2, 0, none⟩) f.ln c2)
  have b4 : Below w.heap.size w (w3.setCell ⟨w.heap.size, 3, none⟩ (.slice (some ⟨g2, 0, none⟩) f.ln c2)) := b3.setCell (p := ⟨w.heap.size, 3, none⟩) (Nat.le_refl _) _
  clear z3 zf o3 b3 kf3 kr3
  generalize w3.setCell ⟨w.heap.size, 3, none⟩ (.slice (some ⟨g2, 0, none⟩) f.ln c2) = w4 at *
  have z0 : w4.cell? ⟨w.heap.size, 0, none⟩ = some (.int .i64 f.u0) := kf4.cell 0
  have z1 : w4.cell? ⟨w.heap.size, 1, none⟩ = some (.slice f.ga f.gn f.gc) := kf4.cell 1
  have z2 : w4.cell? ⟨w.heap.size, 2, none⟩ = some (.slice f.ca f.cn f.cc) := kf4.cell 2
  have z3 : w4.cell? ⟨w.heap.size, 3, none⟩ = some (.slice (some ⟨g2, 0, none⟩) f.ln c2) := kf4.cell 3
  have z4 : w4.cell? ⟨w.heap.size, 4, none⟩ = some (.slice f.a4 f.n4 f.c4) := kf4.cell 4
  have z5 : w4.cell? ⟨w.heap.size, 5, none⟩ = some (.slice f.a5 f.n5 f.c5) := kf4.cell 5
  have z6 : w4.cell? ⟨w.heap.size, 6, none⟩ = some (.slice f.a6 f.n6 f.c6) := kf4.cell 6
  have z7 : w4.cell? ⟨w.heap.size, 7, none⟩ = some (.slice f.a7 f.n7 f.c7) := kf4.cell 7
  have z8 : w4.cell? ⟨w.heap.size, 8, none⟩ = some (.slice f.a8 f.n8 f.c8) := kf4.cell 8
  have r0 : w4.cell? ⟨w.heap.size + 1, 0, none⟩ = some (.int .i64 0) := kr4.cell 0
  have r1 : w4.cell? ⟨w.heap.size + 1, 1, none⟩ = some (.slice none 0 0) := kr4.cell 1
  have r2 : w4.cell? ⟨w.heap.size + 1, 2, none⟩ = some (.slice none 0 0) := kr4.cell 2
  have r3 : w4.cell? ⟨w.heap.size + 1, 3, none⟩ = some (.slice none 0 0) := kr4.cell 3
  have r4 : w4.cell? ⟨w.heap.size + 1, 4, none⟩ = some (.slice none 0 0) := kr4.cell 4
  have r5 : w4.cell? ⟨w.heap.size + 1, 5, none⟩ = some (.slice none 0 0) := kr4.cell 5
  have r6 : w4.cell? ⟨w.heap.size + 1, 6, none⟩ = some (.slice none 0 0) := kr4.cell 6
  have r7 : w4.cell? ⟨w.heap.size + 1, 7, none⟩ = some (.slice none 0 0) := kr4.cell 7
  have r8 : w4.cell? ⟨w.heap.size + 1, 8, none⟩ = some (.slice none 0 0) := kr4.cell 8
  have p0 := kr4.frozen 0
  have p1 := kr4.frozen 1
  have p2 := kr4.frozen 2
  have p3 := kr4.frozen 3
  have p4 := kr4.frozen 4
  have p5 := kr4.frozen 5
  have p6 := kr4.frozen 6
  have p7 := kr4.frozen 7
  have p8 := kr4.frozen 8
  have hne : ∀ b, (some ⟨g2, 0, none⟩ : Option Addr) = some ⟨b, 0, none⟩ → b ≠ w.heap.size + 1 := fun b e => by injection e with e; injection e with e; omega
  go_wp2
  have kr5 : Bk (((((((((w4.setCell ⟨w.heap.size + 1, 0, none⟩ (.int .i64 f.u0)).setCell ⟨w.heap.size + 1, 1, none⟩ (.slice f.ga f.gn f.gc)).setCell ⟨w.heap.size + 1, 2, none⟩ (.slice f.ca f.cn f.cc)).setCell ⟨w.heap.size + 1, 3, none⟩ (.slice (some ⟨g2, 0, none⟩) f.ln c2)).setCell ⟨w.heap.size + 1, 4, none⟩ (.slice f.a4 f.n4 f.c4)).setCell ⟨w.heap.size + 1, 5, none⟩ (.slice f.a5 f.n5 f.c5)).setCell ⟨w.heap.size + 1, 6, none⟩ (.slice f.a6 f.n6 f.c6)).setCell ⟨w.heap.size + 1, 7, none⟩ (.slice f.a7 f.n7 f.c7)).setCell ⟨w.heap.size + 1, 8, none⟩ (.slice f.a8 f.n8 f.c8)) (w.heap.size + 1) 31 #[.int .i64 f.u0, .slice f.ga f.gn f.gc, .slice f.ca f.cn f.cc, .slice (some ⟨g2, 0, none⟩) f.ln c2, .slice f.a4 f.n4 f.c4, .slice f.a5 f.n5 f.c5, .slice f.a6 f.n6 f.c6, .slice f.a7 f.n7 f.c7, .slice f.a8 f.n8 f.c8] := (((((((((kr4.set_ 0 (.int .i64 f.u0)).set_ 1 (.slice f.ga f.gn f.gc)).set_ 2 (.slice f.ca f.cn f.cc)).set_ 3 (.slice (some ⟨g2, 0, none⟩) f.ln c2)).set_ 4 (.slice f.a4 f.n4 f.c4)).set_ 5 (.slice f.a5 f.n5 f.c5)).set_ 6 (.slice f.a6 f.n6 f.c6)).set_ 7 (.slice f.a7 f.n7 f.c7)).set_ 8 (.slice f.a8 f.n8 f.c8))
  have o5 := (((((((((o4.setOther (p := ⟨w.heap.size + 1, 0, none⟩) hne (.int .i64 f.u0)).setOther (p := ⟨w.heap.size + 1, 1, none⟩) hne (.slice f.ga f.gn f.gc)).setOther (p := ⟨w.heap.size + 1, 2, none⟩) hne (.slice f.ca f.cn f.cc)).setOther (p := ⟨w.heap.size + 1, 3, none⟩) hne (.slice (some ⟨g2, 0, none⟩) f.ln c2)).setOther (p := ⟨w.heap.size + 1, 4, none⟩) hne (.slice f.a4 f.n4 f.c4)).setOther (p := ⟨w.heap.size + 1, 5, none⟩) hne (.slice f.a5 f.n5 f.c5)).setOther (p := ⟨w.heap.size + 1, 6, none⟩) hne (.slice f.a6 f.n6 f.c6)).setOther (p := ⟨w.heap.size + 1, 7, none⟩) hne (.slice f.a7 f.n7 f.c7)).setOther (p := ⟨w.heap.size + 1, 8, none⟩) hne (.slice f.a8 f.n8 f.c8))
  have b5 := (((((((((b4.setCell (p := ⟨w.heap.size + 1, 0, none⟩) (by show w.heap.size ≤ w.heap.size + 1; omega) (.int .i64 f.u0)).setCell (p := ⟨w.heap.size + 1, 1, none⟩) (by show w.heap.size ≤ w.heap.size + 1; omega) (.slice f.ga f.gn f.gc)).setCell (p := ⟨w.heap.size + 1, 2, none⟩) (by show w.heap.size ≤ w.heap.size + 1; omega) (.slice f.ca f.cn f.cc)).setCell (p := ⟨w.heap.size + 1, 3, none⟩) (by show w.heap.size ≤ w.heap.size + 1; omega) (.slice (some ⟨g2, 0, none⟩) f.ln c2)).setCell (p := ⟨w.heap.size + 1, 4, none⟩) (by show w.heap.size ≤ w.heap.size + 1; omega) (.slice f.a4 f.n4 f.c4)).setCell (p := ⟨w.heap.size + 1, 5, none⟩) (by show w.heap.size ≤ w.heap.size + 1; omega) (.slice f.a5 f.n5 f.c5)).setCell (p := ⟨w.heap.size + 1, 6, none⟩) (by show w.heap.size ≤ w.heap.size + 1; omega) (.slice f.a6 f.n6 f.c6)).setCell (p := ⟨w.heap.size + 1, 7, none⟩) (by show w.heap.size ≤ w.heap.size + 1; omega) (.slice f.a7 f.n7 f.c7)).setCell (p := ⟨w.heap.size + 1, 8, none⟩) (by show w.heap.size ≤ w.heap.size + 1; omega) (.slice f.a8 f.n8 f.c8))
  clear kr4 kf4 o4 b4 hne z0 r0 p0 z1 r1 p1 z2 r2 p2 z3 r3 p3 z4 r4 p4 z5 r5 p5 z6 r6 p6 z7 r7 p7 z8 r8 p8
  generalize (((((((((w4.setCell ⟨w.heap.size + 1, 0, none⟩ (.int .i64 f.u0)).setCell ⟨w.heap.size + 1, 1, none⟩ (.slice f.ga f.gn f.gc)).setCell ⟨w.heap.size + 1, 2, none⟩ (.slice f.ca f.cn f.cc)).setCell ⟨w.heap.size + 1, 3, none⟩ (.slice (some ⟨g2, 0, none⟩) f.ln c2)).setCell ⟨w.heap.size + 1, 4, none⟩ (.slice f.a4 f.n4 f.c4)).setCell ⟨w.heap.size + 1, 5, none⟩ (.slice f.a5 f.n5 f.c5)).setCell ⟨w.heap.size + 1, 6, none⟩ (.slice f.a6 f.n6 f.c6)).setCell ⟨w.heap.size + 1, 7, none⟩ (.slice f.a7 f.n7 f.c7)).setCell ⟨w.heap.size + 1, 8, none⟩ (.slice f.a8 f.n8 f.c8)) = w5 at *
  have z0 : w5.cell? ⟨w.heap.size + 1, 0, none⟩ = some (.int .i64 f.u0) := kr5.cell 0
  have z1 : w5.cell? ⟨w.heap.size + 1, 1, none⟩ = some (.slice f.ga f.gn f.gc) := kr5.cell 1
  have z2 : w5.cell? ⟨w.heap.size + 1, 2, none⟩ = some (.slice f.ca f.cn f.cc) := kr5.cell 2
  have z3 : w5.cell? ⟨w.heap.size + 1, 3, none⟩ = some (.slice (some ⟨g2, 0, none⟩) f.ln c2) := kr5.cell 3
  have z4 : w5.cell? ⟨w.heap.size + 1, 4, none⟩ = some (.slice f.a4 f.n4 f.c4) := kr5.cell 4
  have z5 : w5.cell? ⟨w.heap.size + 1, 5, none⟩ = some (.slice f.a5 f.n5 f.c5) := kr5.cell 5
  have z6 : w5.cell? ⟨w.heap.size + 1, 6, none⟩ = some (.slice f.a6 f.n6 f.c6) := kr5.cell 6
  have z7 : w5.cell? ⟨w.heap.size + 1, 7, none⟩ = some (.slice f.a7 f.n7 f.c7) := kr5.cell 7
  have z8 : w5.cell? ⟨w.heap.size + 1, 8, none⟩ = some (.slice f.a8 f.n8 f.c8) := kr5.cell 8
  refine bodyPost_ret (v := .agg #[.int .i64 f.u0, .slice f.ga f.gn f.gc, .slice f.ca f.cn f.cc, .slice (some ⟨g2, 0, none⟩) f.ln c2, .slice f.a4 f.n4 f.c4, .slice f.a5 f.n5 f.c5, .slice f.a6 f.n6 f.c6, .slice f.a7 f.n7 f.c7, .slice f.a8 f.n8 f.c8]) (by simp [results, Try.results23, go_sem, z0, z1, z2, z3, z4, z5, z6, z7, z8]) rfl ?_
  have hel : ELk w5 (lo w5.heap.size) [.int .i64 lk.kind, .bool lk.ign, .slice (some ⟨rb, ro + a * 6, none⟩) (b - a) (lc - a)] ⟨lk.kind, lk.ign, (lk.rules.take b).drop a⟩ := ELk.call (w := w) ⟨_, _, _, rfl, ((HRR.out.take b (by have := HBL.out; have := HLN.out; omega)).drop' a HAB.out), ⟨by have := HLC.out.1; omega, by have := HLC.out.2; omega⟩⟩ b5
  exact ⟨g2, c2, rfl, font_put (HF.out.call b5) (o5.row ((HROW.out.mono fun cs x h => h.call b5).set rfl hel) (by omega)) o5.hd, b5⟩

set_option maxRecDepth 100000 in
set_option maxHeartbeats 4000000 in
theorem only0_c (f : FV) (F : Fnt) (q : Nat) (lk : Lk) (hlk : F.lks[q]? = some lk) (b : Nat) (hbl : b ≤ lk.rules.length) (hf : IsF w (lo w.heap.size) f F) (h40 : f.ln ≤ 40) (h12 : lk.rules.length ≤ 12) :
    Calls Try.prog 23 #[.agg f.cells, .int .i64 (q : Int), .int .i64 0, .int .i64 (b : Int)] w (OnlyP w f (putLk F q ⟨lk.kind, lk.ign, lk.rules.take b⟩)) := by
  have HLK := Lib.hid hlk
  have hqN : q < f.ln := by have := hf.2.1.len; have := (List.getElem?_eq_some_iff.1 hlk).1; omega
  have qz : (0 : Int) ≤ (q : Int) := by omega
  have ql : (q : Int) < (f.ln : Int) := by omega
  have HF := Lib.hid hf
  have HBL := Lib.hid hbl
  have HR12 := Lib.hid h12
  have bE : Below w.heap.size w (((w.alloc (.cells #[.int .i64 f.u0, .slice f.ga f.gn f.gc, .slice f.ca f.cn f.cc, .slice f.la f.ln f.lc, .slice f.a4 f.n4 f.c4, .slice f.a5 f.n5 f.c5, .slice f.a6 f.n6 f.c6, .slice f.a7 f.n7 f.c7, .slice f.a8 f.n8 f.c8] 31)).alloc (.cells #[.int .i64 0, .slice none 0 0, .slice none 0 0, .slice none 0 0, .slice none 0 0, .slice none 0 0, .slice none 0 0, .slice none 0 0, .slice none 0 0] 31)).alloc (.cells #[] 44)) := allocs_below [.cells #[.int .i64 f.u0, .slice f.ga f.gn f.gc, .slice f.ca f.cn f.cc, .slice f.la f.ln f.lc, .slice f.a4 f.n4 f.c4, .slice f.a5 f.n5 f.c5, .slice f.a6 f.n6 f.c6, .slice f.a7 f.n7 f.c7, .slice f.a8 f.n8 f.c8] 31, .cells #[.int .i64 0, .slice none 0 0, .slice none 0 0, .slice none 0 0, .slice none 0 0, .slice none 0 0, .slice none 0 0, .slice none 0 0, .slice none 0 0] 31, .cells #[] 44] w w (Below.refl _ _)
  have kf : Bk (((w.alloc (.cells #[.int .i64 f.u0, .slice f.ga f.gn f.gc, .slice f.ca f.cn f.cc, .slice f.la f.ln f.lc, .slice f.a4 f.n4 f.c4, .slice f.a5 f.n5 f.c5, .slice f.a6 f.n6 f.c6, .slice f.a7 f.n7 f.c7, .slice f.a8 f.n8 f.c8] 31)).alloc (.cells #[.int .i64 0, .slice none 0 0, .slice none 0 0, .slice none 0 0, .slice none 0 0, .slice none 0 0, .slice none 0 0, .slice none 0 0, .slice none 0 0] 31)).alloc (.cells #[] 44)) w.heap.size 31 #[.int .i64 f.u0, .slice f.ga f.gn f.gc, .slice f.ca f.cn f.cc, .slice f.la f.ln f.lc, .slice f.a4 f.n4 f.c4, .slice f.a5 f.n5 f.c5, .slice f.a6 f.n6 f.c6, .slice f.a7 f.n7 f.c7, .slice f.a8 f.n8 f.c8] := allocs_at [.cells #[.int .i64 f.u0, .slice f.ga f.gn f.gc, .slice f.ca f.cn f.cc, .slice f.la f.ln f.lc, .slice f.a4 f.n4 f.c4, .slice f.a5 f.n5 f.c5, .slice f.a6 f.n6 f.c6, .slice f.a7 f.n7 f.c7, .slice f.a8 f.n8 f.c8] 31, .cells #[.int .i64 0, .slice none 0 0, .slice none 0 0, .slice none 0 0, .slice none 0 0, .slice none 0 0, .slice none 0 0, .slice none 0 0, .slice none 0 0] 31, .cells #[] 44] w 0 _ rfl
  have kr : Bk (((w.alloc (.cells #[.int .i64 f.u0, .slice f.ga f.gn f.gc, .slice f.ca f.cn f.cc, .slice f.la f.ln f.lc, .slice f.a4 f.n4 f.c4, .slice f.a5 f.n5 f.c5, .slice f.a6 f.n6 f.c6, .slice f.a7 f.n7 f.c7, .slice f.a8 f.n8 f.c8] 31)).alloc (.cells #[.int .i64 0, .slice none 0 0, .slice none 0 0, .slice none 0 0, .slice none 0 0, .slice none 0 0, .slice none 0 0, .slice none 0 0, .slice none 0 0] 31)).alloc (.cells #[] 44)) (w.heap.size + 1) 31 #[.int .i64 0, .slice none 0 0, .slice none 0 0, .slice none 0 0, .slice none 0 0, .slice none 0 0, .slice none 0 0, .slice none 0 0, .slice none 0 0] := allocs_at [.cells #[.int .i64 f.u0, .slice f.ga f.gn f.gc, .slice f.ca f.cn f.cc, .slice f.la f.ln f.lc, .slice f.a4 f.n4 f.c4, .slice f.a5 f.n5 f.c5, .slice f.a6 f.n6 f.c6, .slice f.a7 f.n7 f.c7, .slice f.a8 f.n8 f.c8] 31, .cells #[.int .i64 0, .slice none 0 0, .slice none 0 0, .slice none 0 0, .slice none 0 0, .slice none 0 0, .slice none 0 0, .slice none 0 0, .slice none 0 0] 31, .cells #[] 44] w 1 _ rfl
  have oE := own_empty ((w.alloc (.cells #[.int .i64 f.u0, .slice f.ga f.gn f.gc, .slice f.ca f.cn f.cc, .slice f.la f.ln f.lc, .slice f.a4 f.n4 f.c4, .slice f.a5 f.n5 f.c5, .slice f.a6 f.n6 f.c6, .slice f.a7 f.n7 f.c7, .slice f.a8 f.n8 f.c8] 31)).alloc (.cells #[.int .i64 0, .slice none 0 0, .slice none 0 0, .slice none 0 0, .slice none 0 0, .slice none 0 0, .slice none 0 0, .slice none 0 0, .slice none 0 0] 31)) 44 3
  rw [World.size_alloc, World.size_alloc] at oE
  have HSE := Lib.hid (show w.heap.size + 1 + 1 ≤ (((w.alloc (.cells #[.int .i64 f.u0, .slice f.ga f.gn f.gc, .slice f.ca f.cn f.cc, .slice f.la f.ln f.lc, .slice f.a4 f.n4 f.c4, .slice f.a5 f.n5 f.c5, .slice f.a6 f.n6 f.c6, .slice f.a7 f.n7 f.c7, .slice f.a8 f.n8 f.c8] 31)).alloc (.cells #[.int .i64 0, .slice none 0 0, .slice none 0 0, .slice none 0 0, .slice none 0 0, .slice none 0 0, .slice none 0 0, .slice none 0 0, .slice none 0 0] 31)).alloc (.cells #[] 44)).heap.size by simp)
  obtain ⟨css, hrow, hnl, hnews⟩ := RowOf.news (SlE.mono hf.2.1 (fun _ h => h) (kept_below bE) (fun _ _ h => h)) elk_len
  have HROW := Lib.hid hrow
  have HNL := Lib.hid hnl
  have HNW := Lib.hid hnews
  have HONE := Lib.hid (hrow.one_cells elk_one)
  obtain ⟨cs, hcs, ⟨LA, ln, lc, hce, hRR, hRd⟩, _⟩ := hrow.at hlk
  subst hce
  have HCS := Lib.hid hcs
  have HRR := Lib.hid hRR
  have HLN := Lib.hid hRR.len
  have HLC := Lib.hid hRd
  have bz : (0 : Int) ≤ (b : Int) := by omega
  have blc : (b : Int) ≤ (lc : Int) := by have := hRR.len; have := hRd.1; omega
  clear hrow hnl hnews hcs hlk hf hbl h12
  clear hRR hRd
  unfold FV.cells
  go_enter Try.func23, Try.ntmps23
  go_upto_region 2 with fail
  generalize ((w.alloc (.cells #[.int .i64 f.u0, .slice f.ga f.gn f.gc, .slice f.ca f.cn f.cc, .slice f.la f.ln f.lc, .slice f.a4 f.n4 f.c4, .slice f.a5 f.n5 f.c5, .slice f.a6 f.n6 f.c6, .slice f.a7 f.n7 f.c7, .slice f.a8 f.n8 f.c8] 31)).alloc (.cells #[.int .i64 0, .slice none 0 0, .slice none 0 0, .slice none 0 0, .slice none 0 0, .slice none 0 0, .slice none 0 0, .slice none 0 0, .slice none 0 0] 31)).alloc (.cells #[] 44) = w1 at *
  have z3 : w1.cell? ⟨w.heap.size, 3, none⟩ = some (.slice f.la f.ln f.lc) := kf.cell 3
  go_upto_region 3 with (at_builtin; refine appP elt_look rfl _ _ rfl _ (w.heap.size + 1 + 1) _ _ _ [] _ _ _ css.flatten (by rfl) (by rfl) oE HNL.out HNW.out HONE.out (by omega) HSE.out ?_; intro A2 c2 w2 o2 hg hb hat)
  rw [Nat.zero_add] at o2
  replace o2 : Ow 44 3 w2 (w.heap.size + 1 + 1) A2 f.ln c2 css.flatten := o2
  obtain ⟨g2, hA2, hgb, hgl⟩ := o2.form (by omega)
  subst hA2
  have kf2 := kf.below hb (by omega)
  have kr2 := kr.below hb (by omega)
  have b2 := bE.trans (hb.mono (by omega))
  have lq : w2.cell? ⟨g2, q * 3 + 2, none⟩ = some (.slice LA ln lc) := o2.cell (flat_at HROW.out.2.1 HCS.out rfl)
  have lf : w2.frozen? ⟨g2, q * 3 + 2, none⟩ = false := o2.frozen _
  clear z3 oE bE kf kr hg hb hat HNL HNW HONE HSE
  go_upto_region 4 with fail
  have o3 := o2.put HROW.out HCS.out (j := 2) (by omega) (.slice LA b lc)
  have b3 : Below w.heap.size w (w2.setCell ⟨g2, q * 3 + 2, none⟩ (.slice LA b lc)) := b2.setCell (p := ⟨g2, q * 3 + 2, none⟩) (by show w.heap.size ≤ g2; omega) _
  have kf3 := kf2.far (p := ⟨g2, q * 3 + 2, none⟩) (by show w.heap.size ≠ g2; omega) (.slice LA b lc)
  have kr3 := kr2.far (p := ⟨g2, q * 3 + 2, none⟩) (by show w.heap.size + 1 ≠ g2; omega) (.slice LA b lc)
  clear lq lf o2 b2 kf2 kr2 hgl
  generalize w2.setCell ⟨g2, q * 3 + 2, none⟩ (.slice LA b lc) = w3 at *
  have z3 : w3.cell? ⟨w.heap.size, 3, none⟩ = some (.slice f.la f.ln f.lc) := kf3.cell 3
  have zf := kf3.frozen 3
  go_upto_region 5 with fail
  have kf4 : Bk (w3.setCell ⟨w.heap.size, 3, none⟩ (.slice (some ⟨g2, 0, none⟩) f.ln c2)) w.heap.size 31 #[.int .i64 f.u0, .slice f.ga f.gn f.gc, .slice f.ca f.cn f.cc, .slice (some ⟨g2, 0, none⟩) f.ln c2, .slice f.a4 f.n4 f.c4, .slice f.a5 f.n5 f.c5, .slice f.a6 f.n6 f.c6, .slice f.a7 f.n7 f.c7, .slice f.a8 f.n8 f.c8] := kf3.set_ 3 _
  have kr4 := kr3.far (p := ⟨w.heap.size, 3, none⟩) (by show w.heap.size + 1 ≠ w.heap.size; omega) (.slice (some ⟨g2, 0, none⟩) f.ln c2)
  have o4 := o3.setOther (p := ⟨w.heap.size, 3, none⟩) (fun b e => by injection e with e; injection e with e; show b ≠ w.heap.size; omega) (.slice (some ⟨g2, 0, none⟩) f.ln c2)
  have b4 : Below w.heap.size w (w3.setCell ⟨w.heap.size, 3, none⟩ (.slice (some ⟨g2, 0, none⟩) f.ln c2)) := b3.setCell (p := ⟨w.heap.size, 3, none⟩) (Nat.le_refl _) _
  clear z3 zf o3 b3 kf3 kr3
  generalize w3.setCell ⟨w.heap.size, 3, none⟩ (.slice (some ⟨g2, 0, none⟩) f.ln c2) = w4 at *
  have z0 : w4.cell? ⟨w.heap.size, 0, none⟩ = some (.int .i64 f.u0) := kf4.cell 0
  have z1 : w4.cell? ⟨w.heap.size, 1, none⟩ = some (.slice f.ga f.gn f.gc) := kf4.cell 1
  have z2 : w4.cell? ⟨w.heap.size, 2, none⟩ = some (.slice f.ca f.cn f.cc) := kf4.cell 2
  have z3 : w4.cell? ⟨w.heap.size, 3, none⟩ = some (.slice (some ⟨g2, 0, none⟩) f.ln c2) := kf4.cell 3
  have z4 : w4.cell? ⟨w.heap.size, 4, none⟩ = some (.slice f.a4 f.n4 f.c4) := kf4.cell 4
  have z5 : w4.cell? ⟨w.heap.size, 5, none⟩ = some (.slice f.a5 f.n5 f.c5) := kf4.cell 5
  have z6 : w4.cell? ⟨w.heap.size, 6, none⟩ = some (.slice f.a6 f.n6 f.c6) := kf4.cell 6
  have z7 : w4.cell? ⟨w.heap.size, 7, none⟩ = some (.slice f.a7 f.n7 f.c7) := kf4.cell 7
  have z8 : w4.cell? ⟨w.heap.size, 8, none⟩ = some (.slice f.a8 f.n8 f.c8) := kf4.cell 8
  have r0 : w4.cell? ⟨w.heap.size + 1, 0, none⟩ = some (.int .i64 0) := kr4.cell 0
  have r1 : w4.cell? ⟨w.heap.size + 1, 1, none⟩ = some (.slice none 0 0) := kr4.cell 1
  have r2 : w4.cell? ⟨w.heap.size + 1, 2, none⟩ = some (.slice none 0 0) := kr4.cell 2
  have r3 : w4.cell? ⟨w.heap.size + 1, 3, none⟩ = some (.slice none 0 0) := kr4.cell 3
  have r4 : w4.cell? ⟨w.heap.size + 1, 4, none⟩ = some (.slice none 0 0) := kr4.cell 4
  have r5 : w4.cell? ⟨w.heap.size + 1, 5, none⟩ = some (.slice none 0 0) := kr4.cell 5
  have r6 : w4.cell? ⟨w.heap.size + 1, 6, none⟩ = some (.slice none 0 0) := kr4.cell 6
  have r7 : w4.cell? ⟨w.heap.size + 1, 7, none⟩ = some (.slice none 0 0) := kr4.cell 7
  have r8 : w4.cell? ⟨w.heap.size + 1, 8, none⟩ = some (.slice none 0 0) := kr4.cell 8
  have p0 := kr4.frozen 0
  have p1 := kr4.frozen 1
  have p2 := kr4.frozen 2
  have p3 := kr4.frozen 3
  have p4 := kr4.frozen 4
  have p5 := kr4.frozen 5
  have p6 := kr4.frozen 6
  have p7 := kr4.frozen 7
  have p8 := kr4.frozen 8
  have hne : ∀ b, (some ⟨g2, 0, none⟩ : Option Addr) = some ⟨b, 0, none⟩ → b ≠ w.heap.size + 1 := fun b e => by injection e with e; injection e with e; omega
  go_wp2
  have kr5 : Bk (((((((((w4.setCell ⟨w.heap.size + 1, 0, none⟩ (.int .i64 f.u0)).setCell ⟨w.heap.size + 1, 1, none⟩ (.slice f.ga f.gn f.gc)).setCell ⟨w.heap.size + 1, 2, none⟩ (.slice f.ca f.cn f.cc)).setCell ⟨w.heap.size + 1, 3, none⟩ (.slice (some ⟨g2, 0, none⟩) f.ln c2)).setCell ⟨w.heap.size + 1, 4, none⟩ (.slice f.a4 f.n4 f.c4)).setCell ⟨w.heap.size + 1, 5, none⟩ (.slice f.a5 f.n5 f.c5)).setCell ⟨w.heap.size + 1, 6, none⟩ (.slice f.a6 f.n6 f.c6)).setCell ⟨w.heap.size + 1, 7, none⟩ (.slice f.a7 f.n7 f.c7)).setCell ⟨w.heap.size + 1, 8, none⟩ (.slice f.a8 f.n8 f.c8)) (w.heap.size + 1) 31 #[.int .i64 f.u0, .slice f.ga f.gn f.gc, .slice f.ca f.cn f.cc, .slice (some ⟨g2, 0, none⟩) f.ln c2, .slice f.a4 f.n4 f.c4, .slice f.a5 f.n5 f.c5, .slice f.a6 f.n6 f.c6, .slice f.a7 f.n7 f.c7, .slice f.a8 f.n8 f.c8] := (((((((((kr4.set_ 0 (.int .i64 f.u0)).set_ 1 (.slice f.ga f.gn f.gc)).set_ 2 (.slice f.ca f.cn f.cc)).set_ 3 (.slice (some ⟨g2, 0, none⟩) f.ln c2)).set_ 4 (.slice f.a4 f.n4 f.c4)).set_ 5 (.slice f.a5 f.n5 f.c5)).set_ 6 (.slice f.a6 f.n6 f.c6)).set_ 7 (.slice f.a7 f.n7 f.c7)).set_ 8 (.slice f.a8 f.n8 f.c8))
  have o5 := (((((((((o4.setOther (p := ⟨w.heap.size + 1, 0, none⟩) hne (.int .i64 f.u0)).setOther (p := ⟨w.heap.size + 1, 1, none⟩) hne (.slice f.ga f.gn f.gc)).setOther (p := ⟨w.heap.size + 1, 2, none⟩) hne (.slice f.ca f.cn f.cc)).setOther (p := ⟨w.heap.size + 1, 3, none⟩) hne (.slice (some ⟨g2, 0, none⟩) f.ln c2)).setOther (p := ⟨w.heap.size + 1, 4, none⟩) hne (.slice f.a4 f.n4 f.c4)).setOther (p := ⟨w.heap.size + 1, 5, none⟩) hne (.slice f.a5 f.n5 f.c5)).setOther (p := ⟨w.heap.size + 1, 6, none⟩) hne (.slice f.a6 f.n6 f.c6)).setOther (p := ⟨w.heap.size + 1, 7, none⟩) hne (.slice f.a7 f.n7 f.c7)).setOther (p := ⟨w.heap.size + 1, 8, none⟩) hne (.slice f.a8 f.n8 f.c8))
  have b5 := (((((((((b4.setCell (p := ⟨w.heap.size + 1, 0, none⟩) (by show w.heap.size ≤ w.heap.size + 1; omega) (.int .i64 f.u0)).setCell (p := ⟨w.heap.size + 1, 1, none⟩) (by show w.heap.size ≤ w.heap.size + 1; omega) (.slice f.ga f.gn f.gc)).setCell (p := ⟨w.heap.size + 1, 2, none⟩) (by show w.heap.size ≤ w.heap.size + 1; omega) (.slice f.ca f.cn f.cc)).setCell (p := ⟨w.heap.size + 1, 3, none⟩) (by show w.heap.size ≤ w.heap.size + 1; omega) (.slice (some ⟨g2, 0, none⟩) f.ln c2)).setCell (p := ⟨w.heap.size + 1, 4, none⟩) (by show w.heap.size ≤ w.heap.size + 1; omega) (.slice f.a4 f.n4 f.c4)).setCell (p := ⟨w.heap.size + 1, 5, none⟩) (by show w.heap.size ≤ w.heap.size + 1; omega) (.slice f.a5 f.n5 f.c5)).setCell (p := ⟨w.heap.size + 1, 6, none⟩) (by show w.heap.size ≤ w.heap.size + 1; omega) (.slice f.a6 f.n6 f.c6)).setCell (p := ⟨w.heap.size + 1, 7, none⟩) (by show w.heap.size ≤ w.heap.size + 1; omega) (.slice f.a7 f.n7 f.c7)).setCell (p := ⟨w.heap.size + 1, 8, none⟩) (by show w.heap.size ≤ w.heap.size + 1; omega) (.slice f.a8 f.n8 f.c8))
  clear kr4 kf4 o4 b4 hne z0 r0 p0 z1 r1 p1 z2 r2 p2 z3 r3 p3 z4 r4 p4 z5 r5 p5 z6 r6 p6 z7 r7 p7 z8 r8 p8
  generalize (((((((((w4.setCell ⟨w.heap.size + 1, 0, none⟩ (.int .i64 f.u0)).setCell ⟨w.heap.size + 1, 1, none⟩ (.slice f.ga f.gn f.gc)).setCell ⟨w.heap.size + 1, 2, none⟩ (.slice f.ca f.cn f.cc)).setCell ⟨w.heap.size + 1, 3, none⟩ (.slice (some ⟨g2, 0, none⟩) f.ln c2)).setCell ⟨w.heap.size + 1, 4, none⟩ (.slice f.a4 f.n4 f.c4)).setCell ⟨w.heap.size + 1, 5, none⟩ (.slice f.a5 f.n5 f.c5)).setCell ⟨w.heap.size + 1, 6, none⟩ (.slice f.a6 f.n6 f.c6)).setCell ⟨w.heap.size + 1, 7, none⟩ (.slice f.a7 f.n7 f.c7)).setCell ⟨w.heap.size + 1, 8, none⟩ (.slice f.a8 f.n8 f.c8)) = w5 at *
  have z0 : w5.cell? ⟨w.heap.size + 1, 0, none⟩ = some (.int .i64 f.u0) := kr5.cell 0
  have z1 : w5.cell? ⟨w.heap.size + 1, 1, none⟩ = some (.slice f.ga f.gn f.gc) := kr5.cell 1
  have z2 : w5.cell? ⟨w.heap.size + 1, 2, none⟩ = some (.slice f.ca f.cn f.cc) := kr5.cell 2
  have z3 : w5.cell? ⟨w.heap.size + 1, 3, none⟩ = some (.slice (some ⟨g2, 0, none⟩) f.ln c2) := kr5.cell 3
  have z4 : w5.cell? ⟨w.heap.size + 1, 4, none⟩ = some (.slice f.a4 f.n4 f.c4) := kr5.cell 4
  have z5 : w5.cell? ⟨w.heap.size + 1, 5, none⟩ = some (.slice f.a5 f.n5 f.c5) := kr5.cell 5
  have z6 : w5.cell? ⟨w.heap.size + 1, 6, none⟩ = some (.slice f.a6 f.n6 f.c6) := kr5.cell 6
  have z7 : w5.cell? ⟨w.heap.size + 1, 7, none⟩ = some (.slice f.a7 f.n7 f.c7) := kr5.cell 7
  have z8 : w5.cell? ⟨w.heap.size + 1, 8, none⟩ = some (.slice f.a8 f.n8 f.c8) := kr5.cell 8
  refine bodyPost_ret (v := .agg #[.int .i64 f.u0, .slice f.ga f.gn f.gc, .slice f.ca f.cn f.cc, .slice (some ⟨g2, 0, none⟩) f.ln c2, .slice f.a4 f.n4 f.c4, .slice f.a5 f.n5 f.c5, .slice f.a6 f.n6 f.c6, .slice f.a7 f.n7 f.c7, .slice f.a8 f.n8 f.c8]) (by simp [results, Try.results23, go_sem, z0, z1, z2, z3, z4, z5, z6, z7, z8]) rfl ?_
  have hel : ELk w5 (lo w5.heap.size) [.int .i64 lk.kind, .bool lk.ign, .slice LA b lc] ⟨lk.kind, lk.ign, lk.rules.take b⟩ := ELk.call (w := w) ⟨_, _, _, rfl, (HRR.out.take b (by have := HBL.out; have := HLN.out; omega)), ⟨by omega, HLC.out.2⟩⟩ b5
  exact ⟨g2, c2, rfl, font_put (HF.out.call b5) (o5.row ((HROW.out.mono fun cs x h => h.call b5).set rfl hel) (by omega)) o5.hd, b5⟩

end

end Go.Proofs.Ytkoocipagndclaa
