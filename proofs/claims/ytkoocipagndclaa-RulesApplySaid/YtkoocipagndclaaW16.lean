/- Walks: do, of pairs and of single glyphs. -/
import Derived.Test.YtkoocipagndclaaW15
import Derived.RegionTactic
import Derived.BigRegion
namespace Go.Proofs.Ytkoocipagndclaa
open Go.RowKit Go.Shelf

theorem itc_setj {run : List Itm} {i j : Nat} {it it' : Itm} {v : Value} (h : run[i]? = some it) (h' : itmC it' = (itmC it).set j v) (hj : j < 6) : (itc run).set (i * 6 + j) v = itc (run.set i it') := by
  obtain ⟨hl, rfl⟩ := List.getElem?_eq_some_iff.1 h
  have e : run = run.take i ++ (run[i] :: run.drop (i + 1)) := by rw [List.getElem_cons_drop, List.take_append_drop]
  have e2 : itc run = itc (run.take i) ++ (itmC run[i] ++ itc (run.drop (i + 1))) := by
    conv => lhs; rw [e, itc_app]
    rfl
  have l1 : (itc (run.take i)).length = i * 6 := by rw [itc_len, List.length_take]; congr 1; omega
  have e3 : run.set i it' = run.take i ++ (it' :: run.drop (i + 1)) := List.set_eq_take_append_cons_drop .. ▸ by rw [if_pos hl]
  rw [e2, e3, itc_app, List.set_append_right _ _ (by omega), l1, Nat.add_sub_cancel_left, List.set_append_left _ _ (by simpa [itmC] using hj), ← h']
  rfl

theorem WS.store {B : Nat} {W : World} {Bw Bm : Nat} {f : FV} {F : Fnt} {g rn rc : Nat} {run run' : List Itm} (h : WS B W Bw Bm f F (some ⟨g, 0, none⟩) rn rc run) (q : Nat) (v : Value) (he : (itc run).set q v = itc run') :
    WS B (W.setCell ⟨g, q, none⟩ v) Bw Bm f F (some ⟨g, 0, none⟩) rn rc run' ∧ Kept (SB B W) W (W.setCell ⟨g, q, none⟩ v) ∧ Below B W (W.setCell ⟨g, q, none⟩ v) := by
  obtain ⟨hgB, hglt, _, cur, hh⟩ := h.own.blk g rfl
  have hk : Kept (SB B W) W (W.setCell ⟨g, q, none⟩ v) := fun b hb => Below.heap_setCell _ _ _ _ (fun e => by
    dsimp only at e; subst e
    rcases hb with hb | ⟨cs, t, fr, hb, ht, _⟩
    · omega
    · rw [hb] at hh; injection hh with hh; injection hh with _ h2; exact ht h2)
  have hbl : Below B W (W.setCell ⟨g, q, none⟩ v) := (Below.refl _ _).setCell (p := ⟨g, q, none⟩) hgB v
  have hwne : Bw ≠ g := fun e => by
    subst e
    have hw := h.wk
    unfold Bk at hw; rw [hw] at hh; injection hh with hh; injection hh with _ h2; revert h2; decide
  obtain ⟨gm, hg, hgm⟩ := h.mts
  have hmne : Bm ≠ g := fun e => by
    subst e
    obtain ⟨es, c, h1, _⟩ := hg
    rw [h1] at hh; cases hh
  refine ⟨⟨by simp; exact h.hB, h.lw, h.lm, h.wk.far hwne _, h.font.mono (fun _ h => h) (kept_below hbl), ⟨gm, hg.keep (Below.heap_setCell _ _ _ _ hmne), fun k v hv => ?_⟩, ?_⟩, hk, hbl⟩
  · obtain ⟨m, lk, h1, h2, h3⟩ := hgm k v hv
    exact ⟨m, lk, h1, h2, h3.kept hk⟩
  · rw [← he]; exact h.own.stored q v
theorem WS.drew_ {B : Nat} {W : World} {Bw Bm : Nat} {f : FV} {F : Fnt} {RA : Option Addr} {rn rc : Nat} {run : List Itm} (h : WS B W Bw Bm f F RA rn rc run) : WS B W.drew Bw Bm f F RA rn rc run := h.call ⟨rfl, rfl, rfl, Nat.le_refl _, fun _ _ => rfl⟩
theorem modify_at {α : Type} {l : List α} {i : Nat} {x : α} (h : l[i]? = some x) (g : α → α) : l.modify i g = l.set i (g x) := by
  apply List.ext_getElem?
  intro j
  rw [List.getElem?_modify, List.getElem?_set]
  have hl := (List.getElem?_eq_some_iff.1 h).1
  by_cases e : i = j
  · subst e; rw [h]; simp [hl]
  · simp [e]

/-- What 'do' finds first: its rule, its place, its lookup's kind. -/
theorem do_head {B Bw Bm : Nat} {f : FV} {F : Fnt} {W : World} {RA : Option Addr} {rn rc : Nat} {run : List Itm} {k : Nat} {lk : Lk} {rule : Nat} {r : Rul} (hs : WS B W Bw Bm f F RA rn rc run) (hk : F.lks[k]? = some lk) (hr : lk.rules[rule]? = some r) :
    ∃ b o A n c b2 o2 A1 n1 c1 A2 n2 c2 A3 n3 c3 A4 n4 c4 A5 n5 c5, f.la = some ⟨b, o, none⟩ ∧ b < B ∧ W.cell? ⟨b, o + k * 3, none⟩ = some (.int .i64 lk.kind) ∧ W.cell? ⟨b, o + k * 3 + 1, none⟩ = some (.bool lk.ign) ∧ W.cell? ⟨b, o + k * 3 + 2, none⟩ = some (.slice A n c) ∧ A = some ⟨b2, o2, none⟩ ∧ (rule : Int) < (n : Int) ∧ (k : Int) < (f.ln : Int) ∧ f.ln ≤ 9223372036854775807 ∧ n ≤ 9223372036854775807 ∧
      W.cell? ⟨b2, o2 + rule * 6, none⟩ = some (.slice A1 n1 c1) ∧ W.cell? ⟨b2, o2 + rule * 6 + 1, none⟩ = some (.slice A2 n2 c2) ∧ W.cell? ⟨b2, o2 + rule * 6 + 2, none⟩ = some (.slice A3 n3 c3) ∧ W.cell? ⟨b2, o2 + rule * 6 + 3, none⟩ = some (.slice A4 n4 c4) ∧ W.cell? ⟨b2, o2 + rule * 6 + 4, none⟩ = some (.slice A5 n5 c5) ∧ W.cell? ⟨b2, o2 + rule * 6 + 5, none⟩ = some (.int .i64 r.x) ∧
      RdV W (lo B) A2 n2 r.inn ∧ Rd W (lo B) A4 n4 r.out ∧ RdC W (lo B) A5 n5 r.calls ∧ Hd n2 c2 ∧ Hd n4 c4 ∧ Hd n5 c5 := by
  obtain ⟨_, hL, _, hld⟩ := hs.font
  have hll := hL.len
  have hk1 := (List.getElem?_eq_some_iff.1 hk).1
  obtain ⟨b, o, hla2, hb0, hc⟩ := hL.pos (by omega)
  obtain ⟨cs, ⟨A, n, c, rfl, hR, hd⟩, hcc⟩ := hc k lk hk
  have hr1 := (List.getElem?_eq_some_iff.1 hr).1
  have hRl := hR.len
  obtain ⟨b2, o2, rfl, _, hc2⟩ := hR.pos (by omega)
  obtain ⟨cs, ⟨A1, n1, c1, A2, n2, c2, A3, n3, c3, A4, n4, c4, A5, n5, c5, rfl, q1, q2, q3, q4, q5, d1, d2, d3, d4, d5⟩, hcc2⟩ := hc2 rule r hr
  refine ⟨b, o, _, n, c, b2, o2, A1, n1, c1, A2, n2, c2, A3, n3, c3, A4, n4, c4, A5, n5, c5, hla2, hb0, hcc 0 _ rfl, hcc 1 _ rfl, hcc 2 _ rfl, rfl, by omega, by omega, Nat.le_trans hld.1 hld.2, Nat.le_trans hd.1 hd.2, hcc2 0 _ rfl, hcc2 1 _ rfl, hcc2 2 _ rfl, hcc2 3 _ rfl, hcc2 4 _ rfl, hcc2 5 _ rfl, q2, q4, q5, d2, d4, d5⟩

set_option maxRecDepth 100000 in
set_option maxHeartbeats 2000000 in
theorem do_pair (B Bw Bm : Nat) (f : FV) (F : Fnt) (k : Nat) (lk : Lk) (dp : Nat) (hk : F.lks[k]? = some lk) (hkind : lk.kind = 6) : DoOK B Bw Bm f F k lk dp := by
  intro W RA rn rc run rule r PA pn pc places hs hr hP hpd hin hne hpl hpw hlen
  obtain ⟨b, o, A, n, c, b2, o2, A1, n1, c1, A2, n2, c2, A3, n3, c3, A4, n4, c4, A5, n5, c5, hla, hb0, g0, g1, g2, rfl, rl, kl, fl, nl, x0, x1, x2, x3, x4, x5, q2, q4, q5, d2, d4, d5⟩ := do_head hs hk hr
  obtain ⟨p, ps, rfl⟩ : ∃ p ps, places = p :: ps := by cases places with | nil => exact absurd rfl hne | cons p ps => exact ⟨p, ps, rfl⟩
  have hp := hpl p (List.mem_cons_self ..)
  obtain ⟨it, hit⟩ := at_some run p hp
  have hdo : doL w64 F (4 - dp) lk r (p :: ps) run = run.set p { it with a := w64 (it.a + r.x) } := by
    unfold doL
    simp only [hkind, List.headD_cons]
    simp [pairL, modify_at hit]
  rw [hdo]
  have hpl2 := hP.len
  rw [natI_len] at hpl2
  simp at hpl2
  obtain ⟨pb, po, rfl, _, hpc⟩ := hP.pos (by omega)
  obtain ⟨cs, rfl, hcc⟩ := hpc 0 (p : Int) (by simp [natI])
  have y0 := hcc 0 _ rfl
  simp only [Nat.zero_mul, Nat.add_zero] at y0
  clear hpc hcc hdo
  have hrl := hs.len
  obtain ⟨gi, rfl, _, _⟩ := hs.own.form (by omega)
  have i3 := hs.own.cell (itc_at hit (j := 3) (v := .int .i64 it.a) rfl)
  have fr3 := hs.own.frozen (p * 6 + 3)
  have c3' := hs.c3
  have c9' := hs.c9
  rw [hla] at c3'
  have HS := Lib.hid hs; have HIT := Lib.hid hit
  have pz : (0 : Int) ≤ (p : Int) := by omega
  have pr : (p : Int) < (rn : Int) := by omega
  have hpn0 : (0 : Int) < (pn : Int) := by omega
  have hpn1 : 0 < pn := by omega
  have kz : (0 : Int) ≤ (k : Int) := by omega
  have rz : (0 : Int) ≤ (rule : Int) := by omega
  have hcN : pn ≤ 9223372036854775807 := Nat.le_trans hpd.1 hpd.2
  have hrnN : rn ≤ 1000 := by omega
  have hgl := (hs.own.lt gi 0 none rfl).2
  have lt1 := cell_lt g0
  have lt2 := cell_lt x0
  have lt3 := cell_lt y0
  have lt4 := hs.wk.lt
  rw [hkind] at g0
  dsimp only at lt1 lt2 lt3
  clear hs hit hpl hpw hP hr hk hpl2 hrl hin q2 q4 q5
  go_enter Try.func47, Try.ntmps47
  go_wp2
  generalize hW1 : W.alloc (.cells #[.slice A1 n1 c1, .slice A2 n2 c2, .slice A3 n3 c3, .slice A4 n4 c4, .slice A5 n5 c5, .int .i64 r.x] 48) = W1
  have bx : Bk W1 W.heap.size 48 #[.slice A1 n1 c1, .slice A2 n2 c2, .slice A3 n3 c3, .slice A4 n4 c4, .slice A5 n5 c5, .int .i64 r.x] := by rw [← hW1]; exact Bk.new _ _ _
  have b1 : Below W.heap.size W W1 := by rw [← hW1]; exact (Below.refl _ _).alloc (Nat.le_refl _) _
  have z5 : W1.cell? ⟨W.heap.size, 5, none⟩ = some (.int .i64 r.x) := by have := bx.cell 5; simpa using this
  have z9 := cell_call c9' b1
  have z3 := cell_call i3 b1
  have zf : W1.frozen? ⟨gi, p * 6 + 3, none⟩ = false := (b1.frozen (p := ⟨gi, p * 6 + 3, none⟩) hgl).trans fr3
  have hs1 := HS.out.call b1
  clear hW1 bx g0 g1 g2 x0 x1 x2 x3 x4 x5 y0 i3 fr3 c3' c9' lt1 lt2 lt3 lt4
  go_region
  go_wp2
  go_end0
  obtain ⟨h1, h2, h3⟩ := hs1.store (p * 6 + 3) (.int .i64 (w64 (it.a + r.x))) (itc_setj (it' := { it with a := w64 (it.a + r.x) }) HIT.out rfl (by omega))
  refine ⟨rfl, some ⟨gi, 0, none⟩, rn, rc, h1.drew_, ?_, ?_⟩
  · exact fun b hb => (h2 b (hb.below b1)).trans (b1.block b (hb.lt HS.out.hB))
  · have := (b1.mono HS.out.hB).trans h3
    exact ⟨this.os, this.tape, this.output, this.size, this.block⟩

end Go.Proofs.Ytkoocipagndclaa
