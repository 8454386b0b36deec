/- Walks: a matcher made, and a match. -/
import Derived.Test.YtgcmedkaadagmaaDoorMw1
import Derived.OwnWalk
import Derived.Deep.RegionHeld3
import Derived.Deep.DrawnRows
import Derived.RegionTactic
import Derived.BigRegion
namespace Go.Proofs.YtgcmedkaadagmaaDoor
open Go.RowKit Go.Shelf
attribute [local go_sem] Oper.semAt_some
def FS (B H most : Nat) (w : World) (pre : List Nat) (W : World) : Prop :=
 ∃ A m c, Bk W (B + 1) 23 #[.slice A m c] ∧ Ow 3 1 W H A m c (ic (natI pre)) ∧ m = pre.length ∧ Bk W B 3 #[.int .i64 (most : Int)] ∧ Below B w W ∧ H ≤ W.heap.size
theorem FS.own (B H K most : Nat) (w : World) (hK : B ≤ K) : OwnFrom K (FS B H most w) := by
 intro pre X Y row h hg hr
 obtain ⟨A, m, c, h1, h2, h3, h4, h5, h6⟩ := h
 refine ⟨A, m, c, h1.own_ hg hr, h2.own_ hg hr, h3, h4.own_ hg hr, ?_, Nat.le_trans h6 hg.size⟩
 exact h5.grown hg (by have := h4.lt; omega) (fun k e => by have := (hr k e).1; omega)
set_option maxRecDepth 100000 in
set_option maxHeartbeats 2000000 in
theorem first_c (most Bd N : Nat) (lb : Array Value) (full : List Nat) (w : World) (hseq : SeqStopsK Fence.wide 4 Tryd.prog 90 lb (fun (x : Nat) => #[.int .i64 (x : Int)]) (Kept (lo Bd)) (fun l => l = full) (Pre full) N w)
  (hBd : Bd ≤ w.heap.size) (hN : N ≤ 3000000000000) (hmost : most ≤ 9223372036854775807) :
  Calls Tryd.prog 80 #[.int .i64 (most : Int), .func (.func 90) #[] lb] w fun e w' => ∃ A n c, e = .returned (.slice A n c) ∧ Ow 3 1 w' w.heap.size A n c (ic (natI (full.take most))) ∧ Below w.heap.size w w' := by
 by_cases h0 : most = 0
 ·subst h0
  go_enter Tryd.func80, Tryd.ntmps80
  go_wp2
  go_ret
  exact ⟨_, _, _, rfl, (Ow.nil _ _ _ _).alloc _, (Below.refl _ _).alloc (Nat.le_refl _) _⟩
 ·have e0 : ((most : Int) == 0) = false := by simp; omega
  have e0' : (most == 0) = false := by simp; omega
  refine (callsIn_wide (n := 5)).1 ?_
  have hFw : ∀ k, Fence.wide.fn k := fun _ => trivial
  refine callsIn_of_wp_marks Tryd.func80 rfl trivial ?_ rfl
  simp only [Tryd.ntmps80, List.size_toArray, List.length_cons, List.length_nil, Nat.reduceAdd, Nat.reduceSub, Array.replicate_succ, Array.replicate_zero, List.push_toArray, List.append_toArray, List.nil_append, List.cons_append]
  gi_wp2
  obtain ⟨B, hB⟩ : ∃ B, B = w.heap.size := ⟨_, rfl⟩
  obtain ⟨w1, hw1⟩ : ∃ w1, w1 = (w.alloc (.cells #[.int .i64 (most : Int)] 3)).alloc (.cells #[.slice none 0 0] 23) := ⟨_, rfl⟩
  have s1 : w1.heap.size = B + 1 + 1 := by rw [hw1, hB]; simp
  have k0 : Bk w1 B 3 #[.int .i64 (most : Int)] := by rw [hw1, hB]; exact (Bk.new _ _ _).alloc _
  have k1 : Bk w1 (B + 1) 23 #[.slice none 0 0] := by
   have h := Bk.new (w.alloc (.cells #[.int .i64 (most : Int)] 3)) 23 #[.slice none 0 0]
   rw [World.size_alloc] at h
   rw [hw1, hB]; exact h
  have bw : Below B w w1 := by rw [hw1, hB]; exact below_lit _ _ (below_lit _ _ (Below.refl _ _) _) _
  rw [← hw1, ← hB]
  rw [← hB] at hBd
  have HS1 := Lib.hid s1; have HB := Lib.hid hB
  have bd1 : Bd ≤ w1.heap.size := by omega
  have bw0 : Below w.heap.size w w1 := by rw [← hB]; exact bw
  have n1 : B + 1 < w1.heap.size := by omega
  clear s1 hw1 hB
  refine wpIn_rangeFunc_ownH rfl (by omega) (gf := 90) (lb := lb) rfl trivial (enters_of Tryd.func90 (by kernel_rfl) rfl)
   hseq (fun h k => h.trans k)
   (fun W l o o' hl ho _ _ => fun k hk => World.putObj_heap_other (by unfold lo at hk; omega)) bw0 (fun _ => rfl)
   (fun pre W => FS B w1.heap.size most w pre W ∧ pre.length < most) (fun c pre W => c = .exit 0 ∧ FS B w1.heap.size most w pre W ∧ pre.length = most)
   (fun pre X Y row h hg hr => ⟨FS.own B w1.heap.size w1.heap.size most w (by omega) pre X Y row h.1 hg hr, h.2⟩) (fun c pre X Y row h hg hr => ⟨h.1, FS.own B w1.heap.size w1.heap.size most w (by omega) pre X Y row h.2.1 hg hr, h.2.2⟩)
   ⟨⟨none, 0, 0, k1, Ow.nil _ _ _ _, rfl, k0, bw, Nat.le_refl _⟩, by simp; omega⟩
   (fun x a' W => a' = { tmps := #[Value.int .i64 (most : Int), Value.func (Fn.func 90) #[] lb, Value.pointer (some { block := B, off := 0 }), undef, Value.slice none 0 0, Value.pointer (some { block := B + 1, off := 0 }), Value.int .i64 (x : Int), Value.int .i64 (most : Int),
     Value.bool false, Value.func (Fn.func 90) #[] lb, Value.int .i64 (x : Int), undef, undef, undef, undef, undef, undef, undef, undef, undef], defers := [] }) ?hax ?assign ?body ?done ?stop
  case hax =>
   rintro x a' _ X Y row h hg hr
   exact h
  case assign =>
   rintro l pre x W K hi hK
   gi_wp2
   exact hK _ _ (KeepsFrom.refl _ _) (Kept.refl _ _) hi rfl
  case body =>
   rintro l pre x a' W hl _ ⟨⟨A, m, c, h1, h2, h3, h4, h5, h6⟩, hlt⟩ rfl hlen
   have c1 := h1.cell 0
   simp only [List.getElem?_toArray, List.getElem?_cons_zero] at c1
   have hA : ∀ g, A.map (·.block) = some g → w1.heap.size ≤ g := fun g e => (h2.blk g e).1
   have n1' : some (B + 1) ≠ A.map (·.block) := fun e => by have := hA _ e.symm; omega
   have n0' : some B ≠ A.map (·.block) := fun e => by have := hA _ e.symm; omega
   have hm : m < most := by omega
   have hmN : m ≤ 3000000000000 := by omega
   have fin : ∀ (A2 : Option Addr) (c2 : Nat) (w2 : World), Ow 3 1 w2 w1.heap.size A2 (m + 1) c2 (ic (natI pre) ++ [.int .i64 (x : Int)]) → (W.alloc (.cells #[.int .i64 (x : Int)] 3)).grownBy w2 (A.map (·.block)) →
     Bk w2 (B + 1) 23 #[.slice A m c] ∧ Bk w2 B 3 #[.int .i64 (most : Int)] ∧
     (∀ W', W' = w2.setCell ⟨B + 1, 0, none⟩ (.slice A2 (m + 1) c2) → KeepsFrom w1.heap.size W W' ∧ Kept (lo Bd) W W' ∧ FS B w1.heap.size most w (pre ++ [x]) W' ∧ W'.cell? ⟨B + 1, 0, none⟩ = some (.slice A2 (m + 1) c2) ∧ W'.cell? ⟨B, 0, none⟩ = some (.int .i64 (most : Int))) := by
    intro A2 c2 w2 ho2 hg2'
    have hg2 : W.grownBy w2 (A.map (·.block)) := (World.grownBy_alloc W _ _).trans hg2'
    have q1 := h1.grown hg2 n1'
    have q4 := h4.grown hg2 n0'
    refine ⟨q1, q4, ?_⟩
    rintro W' rfl
    have hko : KeepsOthers W w2 := KeepsOthers.of_grownBy hg2 (fun j o e ho => by
     obtain ⟨_, _, _, cur, hh⟩ := h2.blk j e
     rw [hh] at ho; injection ho with ho; subst ho; rfl)
    have hb2 : Below B W w2 := (Below.refl _ _).grown hg2 (by omega) (fun k e => by have := hA k e; omega)
    have hsz2 := hg2.size
    have a2 : ∀ b, A2 = some ⟨b, 0, none⟩ → w1.heap.size ≤ b := fun b e => (ho2.lt b 0 none e).1
    have kk := q1.set_ 0 (.slice A2 (m + 1) c2)
    have k4 : Bk (w2.setCell ⟨B + 1, 0, none⟩ (.slice A2 (m + 1) c2)) B 3 #[.int .i64 (most : Int)] := q4.far (by dsimp only; omega) _
    refine ⟨(hko.trans (KeepsOthers.setCell _ _ _)).from _, fun k hk => ?_, ⟨A2, m + 1, c2, kk, ?_, by simp [h3], k4, (h5.trans hb2).setCell (by dsimp only; omega) _, by simp; omega⟩, ?_, ?_⟩
    ·unfold lo at hk
     rw [Below.heap_setCell _ _ _ _ (by dsimp only; omega)]
     exact hb2.block k (by omega)
    ·have e : ic (natI (pre ++ [x])) = ic (natI pre) ++ [.int .i64 (x : Int)] := by simp [ic, natI]
     rw [e]
     exact ho2.setOther (fun b e => by have := a2 b e; dsimp only; omega) _
    ·have := kk.cell 0; simpa using this
    ·have := k4.cell 0; simpa using this
   have FIN := Lib.hid fin; clear fin
   have HLN := Lib.hid hlen; have HL3 := Lib.hid h3
   clear n1' n0' hA hlen h3 h4 h5 h6
   have hs6 : w1.heap.size ≤ W.heap.size := by have := h1.lt; have := HS1.out; omega
   by_cases hend : m + 1 = most
   ·have t1 : (((m : Int) + 1) == (most : Int)) = true := by simp; omega
    have t2 : ((m + 1) == most) = true := by simp; omega
    have HEND := Lib.hid hend; clear hend
    gi_wp2_with (gi_at_builtin; refine appIn elt_int rfl (.tmp 11) (.tmp 13) rfl (W.alloc (.cells #[.int .i64 (x : Int)] 3)) w1.heap.size _ _ _ _ _ _ _ [.int .i64 (x : Int)] (by rfl) (by rfl) (h2.alloc _) rfl (news_new _ _ _) (by simp [Value.oneCell']) (by omega) (by simp; omega) ?_; intro A2 c2 w2 ho2 hg2 hb2 hat2; obtain ⟨q1, q4, FF⟩ := FIN.out A2 c2 w2 ho2 hg2; have FF2 := Lib.hid (FF _ rfl); clear FF; have qc := q1.cell 0; have qf := q1.frozen 0; simp only [List.getElem?_toArray, List.getElem?_cons_zero] at qc; have z1 := FF2.out.2.2.2.1; have z2 := FF2.out.2.2.2.2)
    obtain ⟨f1, _, f3, _⟩ := FF2.out
    exact ⟨f1, rfl, f3, by simp; have := HEND.out; have := HL3.out; omega⟩
   ·have t1 : (((m : Int) + 1) == (most : Int)) = false := by simp; omega
    have t2 : ((m + 1) == most) = false := by simp; omega
    have HEND := Lib.hid hend; clear hend
    gi_wp2_with (gi_at_builtin; refine appIn elt_int rfl (.tmp 11) (.tmp 13) rfl (W.alloc (.cells #[.int .i64 (x : Int)] 3)) w1.heap.size _ _ _ _ _ _ _ [.int .i64 (x : Int)] (by rfl) (by rfl) (h2.alloc _) rfl (news_new _ _ _) (by simp [Value.oneCell']) (by omega) (by simp; omega) ?_; intro A2 c2 w2 ho2 hg2 hb2 hat2; obtain ⟨q1, q4, FF⟩ := FIN.out A2 c2 w2 ho2 hg2; have FF2 := Lib.hid (FF _ rfl); clear FF; have qc := q1.cell 0; have qf := q1.frozen 0; simp only [List.getElem?_toArray, List.getElem?_cons_zero] at qc; have z1 := FF2.out.2.2.2.1; have z2 := FF2.out.2.2.2.2)
    obtain ⟨f1, f2, f3, _⟩ := FF2.out
    exact ⟨f1, f2, f3, by simp; have := HEND.out; have := HL3.out; omega⟩
  case done =>
   rintro D ys W hD rfl ⟨⟨A, m, c, h1, h2, h3, h4, h5, h6⟩, hlt⟩ hK
   have c1 := h1.cell 0
   simp only [List.getElem?_toArray, List.getElem?_cons_zero] at c1
   have HLT := Lib.hid hlt
   clear h3 hlt
   gi_wp2
   refine ⟨by simp, .inl ⟨_, _, rfl, run_takeDeferred hK, ?_⟩⟩
   have hgp := grownBy_putObj' W D (.deferred none)
   have hrr : ∀ r, some D = some r → w1.heap.size ≤ r ∧ ∃ o : Obj, W.heap[r]? = some o ∧ o.isCells = false := fun r e => by cases e; exact ⟨hD, _, hK, rfl⟩
   refine ⟨_, results_tmp rfl _ _ _, A, m, c, rfl, ?_, ?_⟩
   ·rw [← HB.out, List.take_of_length_le (by have := HLT.out; omega)]; exact (h2.own_ hgp hrr).lower (by omega)
   ·rw [← HB.out]; exact h5.grown hgp (by have := h1.lt; omega) (fun k e => by have := (hrr k e).1; omega)
  case stop =>
   rintro D cc pre W hD ⟨t, hSp⟩ ⟨rfl, ⟨A, m, c, h1, h2, h3, h4, h5, h6⟩, hlt⟩ hK
   have c1 := h1.cell 0
   simp only [List.getElem?_toArray, List.getElem?_cons_zero] at c1
   have HSP := Lib.hid hSp; have HLT := Lib.hid hlt
   clear h3 hlt hSp
   gi_wp2
   refine ⟨by simp, .inl ⟨_, _, rfl, run_takeDeferred hK, ?_⟩⟩
   have hgp := grownBy_putObj' W D (.deferred none)
   have hrr : ∀ r, some D = some r → w1.heap.size ≤ r ∧ ∃ o : Obj, W.heap[r]? = some o ∧ o.isCells = false := fun r e => by cases e; exact ⟨hD, _, hK, rfl⟩
   refine ⟨_, results_tmp rfl _ _ _, A, m, c, rfl, ?_, ?_⟩
   ·rw [← HB.out, HSP.out, ← HLT.out, List.take_left']
    ·exact (h2.own_ hgp hrr).lower (by omega)
    ·rfl
   ·rw [← HB.out]; exact h5.grown hgp (by have := h1.lt; omega) (fun k e => by have := (hrr k e).1; omega)
attribute [local go_sem ↓] Go.wp_at_zero Go.wp_at_succ
def Sol (w : World) (b : Nat) : Prop := ∃ cs t fr, w.heap[b]? = some (.cells cs t fr) ∧ t ≠ 76 ∧ t ≠ 132
theorem Sol.lt {w : World} {b : Nat} (h : Sol w b) : b < w.heap.size := by obtain ⟨cs, t, fr, h, _⟩ := h; exact (Array.getElem?_eq_some_iff.1 h).1
theorem Sol.below {w w' : World} {b : Nat} (h : Sol w b) (hb : Below w.heap.size w w') : Sol w' b := by
 have hl := h.lt
 obtain ⟨cs, t, fr, h, h2⟩ := h
 exact ⟨cs, t, fr, (hb.block b hl).trans h, h2⟩
theorem Ow.rdS {w : World} {base n c : Nat} {A : Option Addr} {xs : List Int} (h : Ow 3 1 w base A n c (ic xs)) : Rd w (Sol w) A n xs := by
 refine ⟨h.rd.1, fun hn => ?_⟩
 obtain ⟨b, o, e, _, hc⟩ := h.rd.2 hn
 obtain ⟨_, _, _, cur, hh⟩ := h.blk b (by rw [e]; rfl)
 exact ⟨b, o, e, ⟨cur, 3, _, hh, by decide, by decide⟩, hc⟩
theorem seen_p (Bw : Nat) (f : FV) (F : Fnt) (RA : Option Addr) (rn rc : Nat) (run : List Itm) (ign : Bool) (k s : Int) (w : World) (hf : IsF w (lo w.heap.size) f F) (h1 : w.cell? ⟨Bw, 1, none⟩ = some (.slice f.ga f.gn f.gc)) (h9 : w.cell? ⟨Bw, 9, none⟩ = some (.slice RA rn rc))
  (hI : RdI w (lo w.heap.size) RA rn run) (hrn : rn ≤ 9223372036854775806) :
  Calls Tryd.prog 81 #[.pointer (some ⟨Bw, 0, none⟩), .bool ign, .int .i64 k, .int .i64 s] w fun e w' => ∃ B1 B2 B3 B4,
   e = .returned (.func (.func 90) #[] #[.pointer (some ⟨B1, 0, none⟩), .pointer (some ⟨B2, 0, none⟩), .pointer (some ⟨B3, 0, none⟩), .pointer (some ⟨B4, 0, none⟩)]) ∧
   It w' w'.heap.size B1 B2 B3 B4 Bw f F RA rn rc run ign k s ∧ Below w.heap.size w w' := by
 refine (seen_c Bw ign k s w).mono ?_
 rintro e w' ⟨rfl, rfl⟩
 refine ⟨_, _, _, _, rfl, ?_, below_lit _ _ (below_lit _ _ (below_lit _ _ (below_lit _ _ (Below.refl _ _) _) _) _) _⟩
 have hb : Below w.heap.size w ((((w.alloc (.cells #[.pointer (some ⟨Bw, 0, none⟩)] 129)).alloc (.cells #[.bool ign] 4)).alloc (.cells #[.int .i64 k] 3)).alloc (.cells #[.int .i64 s] 3)) := below_lit _ _ (below_lit _ _ (below_lit _ _ (below_lit _ _ (Below.refl _ _) _) _) _) _
 have lw := cell_lt h1
 refine ⟨Nat.le_refl _, by simp, by simp; omega, by simp, by simp, by simp; simp at lw; omega, ?_, ?_, ?_, ?_, cell_call h1 hb, cell_call h9 hb, hI.call hb, hf.call hb, hrn⟩
 ·have h := (Bk.new ((w.alloc (.cells #[.pointer (some ⟨Bw, 0, none⟩)] 129)).alloc (.cells #[.bool ign] 4)) 3 #[.int .i64 k]).alloc (.cells #[.int .i64 s] 3)
  have h2 := h.cell 0
  simpa using h2
 ·have h := (((Bk.new w 129 #[.pointer (some ⟨Bw, 0, none⟩)]).alloc (.cells #[.bool ign] 4)).alloc (.cells #[.int .i64 k] 3)).alloc (.cells #[.int .i64 s] 3)
  have h2 := h.cell 0
  simpa using h2
 ·have h := Bk.new (((w.alloc (.cells #[.pointer (some ⟨Bw, 0, none⟩)] 129)).alloc (.cells #[.bool ign] 4)).alloc (.cells #[.int .i64 k] 3)) 3 #[.int .i64 s]
  have h2 := h.cell 0
  simpa using h2
 ·have h := ((Bk.new (w.alloc (.cells #[.pointer (some ⟨Bw, 0, none⟩)] 129)) 4 #[.bool ign]).alloc (.cells #[.int .i64 k] 3)).alloc (.cells #[.int .i64 s] 3)
  have h2 := h.cell 0
  simpa using h2
attribute [local go_sem ↓] Go.wp_at_zero Go.wp_at_succ
theorem inSets_take (run : List Itm) (sets : List (List Int)) (places : List Nat) (n : Nat) (h : sets.length ≤ n) : inSets run sets (places.take n) = inSets run sets places := by
 induction sets generalizing places n with
 | nil => simp [inSets]
 | cons s ss ih =>
  cases n with
  | zero => simp at h
  | succ n =>
   cases places with
   | nil => simp
   | cons p ps => rw [List.take_succ_cons, inSets_cons, inSets_cons, ih ps n (by simp at h; omega)]
theorem fits_take (run : List Itm) (r : Rul) (fore back : List Nat) (fo bak : Nat) (h1 : r.inn.length + r.ahead.length ≤ fo) (h2 : r.back.length ≤ bak) : fits run r (fore.take fo) (back.take bak) = fits run r fore back := by
 unfold fits
 have e1 : (fore.take fo).drop r.inn.length = (fore.drop r.inn.length).take (fo - r.inn.length) := by rw [List.drop_take]
 have e2 : (r.inn.length + r.ahead.length ≤ (fore.take fo).length) = (r.inn.length + r.ahead.length ≤ fore.length) := by rw [List.length_take]; simp only [eq_iff_iff]; omega
 have e3 : (r.back.length ≤ (back.take bak).length) = (r.back.length ≤ back.length) := by rw [List.length_take]; simp only [eq_iff_iff]; omega
 rw [e1, inSets_take _ _ _ _ (by omega), inSets_take _ _ _ _ (by omega), inSets_take _ _ _ _ (by omega)]
 simp only [e2, e3]
theorem firstR_none {p : Rul → Bool} {rs : List Rul} {n : Nat} (h : ∀ (j : Nat) (r : Rul), rs[j]? = some r → p r = false) : firstR p rs n = none := by
 induction rs generalizing n with
 | nil => rfl
 | cons r rs ih =>
  rw [firstR, if_neg (by rw [h 0 r rfl]; simp)]
  exact ih fun j q hq => h (j + 1) q hq
theorem firstR_some {p : Rul → Bool} {rs : List Rul} {n k : Nat} {r : Rul} (hk : rs[k]? = some r) (hp : p r = true) (h : ∀ (j : Nat) (q : Rul), j < k → rs[j]? = some q → p q = false) : firstR p rs n = some (n + k, r) := by
 induction rs generalizing n k with
 | nil => simp at hk
 | cons q rs ih =>
  cases k with
  | zero => simp at hk; subst hk; rw [firstR, if_pos hp]; rfl
  | succ k =>
   rw [firstR, if_neg (by rw [h 0 q (by omega) rfl]; simp), ih (by simpa using hk) (fun j x hj hx => h (j + 1) x (by omega) (by simpa using hx))]
   congr 2; omega
def MPost (w : World) (ans : Option (Nat × List Nat)) (e : Ending) (w' : World) : Prop :=
 match ans with
 | none => e = .returned (.tuple #[.int .i64 (-1), .slice none 0 0]) ∧ Below w.heap.size w w'
 | some (n, ps) => ∃ A c, e = .returned (.tuple #[.int .i64 (n : Int), .slice A ps.length c]) ∧ Rd w' (Sol w') A ps.length (natI ps) ∧ Hd ps.length c ∧ Below w.heap.size w w'
set_option maxRecDepth 100000 in
set_option maxHeartbeats 4000000 in
theorem match_c (h : FuncId) (P : List Int → Prop) (hh : HasOK h P) (Bw Bm : Nat) (f : FV) (F : Fnt) (RA FA MA : Option Addr) (rn rc fn fc mn mc : Nat) (run : List Itm) (lk : Lk) (fo bak : Nat) (k : Int) (forms : List Int) (w : World)
  (hf : IsF w (lo w.heap.size) f F) (h1 : w.cell? ⟨Bw, 1, none⟩ = some (.slice f.ga f.gn f.gc)) (h9 : w.cell? ⟨Bw, 9, none⟩ = some (.slice RA rn rc)) (hI : RdI w (lo w.heap.size) RA rn run)
  (m0 : w.cell? ⟨Bm, 0, none⟩ = some (.slice MA mn mc)) (m1 : w.cell? ⟨Bm, 1, none⟩ = some (.bool lk.ign)) (m2 : w.cell? ⟨Bm, 2, none⟩ = some (.func (.func h) #[] #[])) (m3 : w.cell? ⟨Bm, 3, none⟩ = some (.int .i64 (fo : Int))) (m4 : w.cell? ⟨Bm, 4, none⟩ = some (.int .i64 (bak : Int)))
  (hR : RdR w (lo w.heap.size) MA mn lk.rules) (hF : Rd w (lo w.heap.size) FA fn forms) (hs : ∀ r ∈ lk.rules, (∀ s ∈ r.inn, P s) ∧ (∀ s ∈ r.ahead, P s) ∧ (∀ s ∈ r.back, P s))
  (hfo : ∀ r ∈ lk.rules, r.inn.length + r.ahead.length ≤ fo) (hba : ∀ r ∈ lk.rules, r.back.length ≤ bak) (hrn : rn ≤ 2999999999999) (hfn : fn ≤ 9223372036854775807) (hmn : mn ≤ 9223372036854775806) (bfo : fo ≤ 9223372036854775807) (bba : bak ≤ 9223372036854775807) :
  Calls Tryd.prog 54 #[.pointer (some ⟨Bw, 0, none⟩), .pointer (some ⟨Bm, 0, none⟩), .int .i64 k, .slice FA fn fc] w (MPost w (matchL F lk run k forms)) := by
 have hlr := hI.len
 have HBG := Lib.hid (begins_c Bw Bm f F RA FA rn rc fn fc run lk.ign k forms w hf h1 h9 hI m1 hF (by omega) hfn)
 cases hb : begL F lk.ign run k forms with
 | false =>
  have e : matchL F lk run k forms = none := by unfold matchL; rw [if_neg (by rw [hb]; simp)]
  rw [e]
  rw [hb] at HBG
  clear e hb hlr
  go_enter Tryd.func54, Tryd.ntmps54
  go_wp2_with (go_at_call 79; refine HBG.out.mono ?_; rintro e w' ⟨rfl, rfl⟩)
  go_ret2
  exact ⟨rfl, Below.refl _ _⟩
 | true =>
  have hk : 0 ≤ k ∧ k < run.length := by
   unfold begL at hb
   simp only [Bool.and_eq_true, decide_eq_true_eq] at hb
   exact hb.1.1
  obtain ⟨k, rfl⟩ : ∃ j : Nat, k = j := ⟨k.toNat, by omega⟩
  rw [hb] at HBG
  have hmL : matchL F lk run (k : Int) forms = match firstR (fun r => fits run r (foreL F lk.ign run k) (backL F lk.ign run k)) lk.rules 0 with | some (n, r) => some (n, (foreL F lk.ign run k).take r.inn.length) | none => none := by
   unfold matchL; rw [if_pos hb, Int.toNat_natCast]; rfl
  obtain ⟨ans, hans⟩ : ∃ ans, ans = matchL F lk run (k : Int) forms := ⟨_, rfl⟩
  rw [← hans]
  rw [hmL] at hans
  clear hmL hb
  obtain ⟨fore, hfe⟩ : ∃ l, l = foreL F lk.ign run k := ⟨_, rfl⟩
  obtain ⟨back, hbe⟩ : ∃ l, l = backL F lk.ign run k := ⟨_, rfl⟩
  have pf : ∀ p ∈ fore, p < run.length := fun p hp => by rw [hfe] at hp; exact (upL_mem.1 hp).2.1
  have pb : ∀ p ∈ back, p < run.length := fun p hp => by rw [hbe] at hp; have := (dnL_mem.1 hp).1; omega
  have hkr : k ≤ rn := by omega
  have hk0 : (1 : Int) ≤ (k : Int) + 1 := by omega
  have hkm : (k : Int) ≤ 2999999999999 := by omega
  rw [← hfe, ← hbe] at hans
  have HANS := Lib.hid hans
  have HFE := Lib.hid hfe; have HBE := Lib.hid hbe
  have PF := Lib.hid pf; have PB := Lib.hid pb; have HL := Lib.hid hlr
  have HS := Lib.hid hs; have HFO := Lib.hid hfo; have HBA := Lib.hid hba
  clear hfe hbe pf pb hs hfo hba hlr hk hans
  go_enter Tryd.func54, Tryd.ntmps54
  go_wp2_with (go_at_call 79; refine HBG.out.mono ?_; rintro e w' ⟨rfl, rfl⟩)
  go_region_held3 (fun w' => w'.cell? ⟨Bm, 3, none⟩ = some (.int .i64 (fo : Int)) ∧ w'.cell? ⟨Bm, 1, none⟩ = some (.bool lk.ign)) (first | go_keep | exact ⟨z3, z1⟩) (first
   | (go_at_call 81; refine (seen_p Bw f F RA rn rc run lk.ign (k : Int) 1 _ (by exact hf) (by exact h1) (by exact h9) (by exact hI) (by omega)).mono ?_; rintro e w3 ⟨B1, B2, B3, B4, rfl, hIt, hb3⟩; have z3 := cell_call (by exact m3) hb3; have z1 := cell_call (by exact m1) hb3)
   | (go_at_call 80; refine (first_c fo w3.heap.size (rn + 1) _ _ w3 (seenUp_stops 4 w3.heap.size _ _ _ _ _ _ _ _ _ _ _ _ k w3 (by omega) hIt) (Nat.le_refl _) (by omega) (by omega)).mono ?_; rintro e w4 ⟨A4, n4, c4, rfl, ho4, hb4⟩; have z3 := cell_call z3 hb4; have z1 := cell_call z1 hb4))
  have bb4 := below_call hb3 hb4
  have hfull : upL (seenB F lk.ign run) rn k = fore := by rw [HFE.out]; unfold foreL; rw [HL.out]
  rw [hfull] at ho4
  replace bb4 : Below w.heap.size w w4 := ⟨bb4.os, bb4.tape, bb4.output, bb4.size, bb4.block⟩
  have hb3s : w.heap.size ≤ w3.heap.size := by have := hb3.size; simpa using this
  clear hfull hIt z3 z1 hb3 hb4
  have hf4 := hf.call bb4
  have h14 := cell_call h1 bb4
  have h94 := cell_call h9 bb4
  have hI4 := hI.call bb4
  have m14 := cell_call m1 bb4
  have m44 := cell_call m4 bb4
  have hk2 : IntKind.i64.wrap ((k : Int) - 1) = (k : Int) - 1 := IntWalk.i64_in _ (by omega)
  go_wp2
  go_region_held3 (fun w' => w'.cell? ⟨Bm, 4, none⟩ = some (.int .i64 (bak : Int)) ∧ w'.cell? ⟨Bm, 1, none⟩ = some (.bool lk.ign)) (first | go_keep | exact ⟨z3, z1⟩) (first
   | (go_at_call 81; refine (seen_p Bw f F RA rn rc run lk.ign ((k : Int) - 1) (-1) _ (by exact hf4) (by exact h14) (by exact h94) (by exact hI4) (by omega)).mono ?_; rintro e w5 ⟨B1, B2, B3, B4, rfl, hIt, hb5⟩; have z3 := cell_call (by exact m44) hb5; have z1 := cell_call (by exact m14) hb5)
   | (go_at_call 80; refine (first_c bak w5.heap.size (rn + 1) _ _ w5 (seenDn_stops 4 w5.heap.size _ _ _ _ _ _ _ _ _ _ _ _ k w5 (by omega) hIt hkr) (Nat.le_refl _) (by omega) (by omega)).mono ?_; rintro e w6 ⟨A6, n6, c6, rfl, ho6, hb6⟩; have z3 := cell_call z3 hb6; have z1 := cell_call z1 hb6))
  replace hb5 : Below w4.heap.size w4 w5 := ⟨hb5.os, hb5.tape, hb5.output, hb5.size, hb5.block⟩
  have bb6 := below_call bb4 (below_call hb5 hb6)
  have ho4' : Ow 3 1 w6 w.heap.size A4 n4 c4 (ic (natI (fore.take fo))) := ((ho4.call (below_call hb5 hb6)).lower hb3s)
  have hfull : dnL (seenB F lk.ign run) k = back := by rw [HBE.out]; rfl
  rw [hfull] at ho6
  have ho6' : Ow 3 1 w6 w.heap.size A6 n6 c6 (ic (natI (back.take bak))) := ho6.lower (by have := hb5.size; have := bb4.size; omega)
  have m06 := cell_call m0 bb6
  clear hfull hIt z3 z1 hb5 hb6 hf4 h14 h94 hI4 m14 m44 hk2 ho4 ho6 bb4
  go_wp2
  go_loopw [50] (fun i wr => ∃ j : Nat, j ≤ mn ∧ i = .int .i64 j ∧ (∀ (q : Nat) (r : Rul), q < j → lk.rules[q]? = some r → fits run r fore back = false) ∧ Below w.heap.size w wr ∧ Ow 3 1 wr w.heap.size A4 n4 c4 (ic (natI (fore.take fo))) ∧ Ow 3 1 wr w.heap.size A6 n6 c6 (ic (natI (back.take bak)))) (fun i _ => mn - (intOf i).toNat)
  case atStart => exact ⟨0, by omega, rfl, fun q r hq => by omega, bb6, ho4', ho6'⟩
  case round =>
   obtain ⟨j, hj, rfl, hno, bbr, hoF, hoB⟩ := hrel
   have HNO := Lib.hid hno; clear hno
   clear bb6 ho4' ho6' m06
   have LR := Lib.hid hR.len
   by_cases hlt : j < mn
   ·obtain ⟨r, hr⟩ := at_some lk.rules j (by have := LR.out; omega)
    have hRr := hR.call bbr
    obtain ⟨b, o, rfl, _, hc⟩ := hRr.pos (by omega)
    obtain ⟨cs, he, hcc⟩ := hc j r hr
    have hM : ∀ cs0 : List Value, cs0 = cs → Calls Tryd.prog 82 #[.pointer (some ⟨Bw, 0, none⟩), .pointer (some ⟨Bm, 0, none⟩), .agg cs0.toArray, .slice A4 n4 c4, .slice A6 n6 c6] (wr.alloc (.cells cs0.toArray 58)) fun e w' => e = .returned (.bool (fits run r fore back)) ∧ Below (wr.alloc (.cells cs0.toArray 58)).heap.size (wr.alloc (.cells cs0.toArray 58)) w' := by
     rintro cs0 rfl
     have bba2 := bbr.alloc bbr.size (.cells cs0.toArray 58)
     have hoF' := hoF.alloc (.cells cs0.toArray 58)
     have hoB' := hoB.alloc (.cells cs0.toArray 58)
     have := matches_c h P hh Bw Bm RA A4 A6 rn rc n4 c4 n6 c6 run r cs0 (fore.take fo) (back.take bak) _ (cell_call h9 bba2) (hI.call bba2) (cell_call m2 bba2) (he.mono (fun b hb => Nat.lt_of_lt_of_le hb (by simp)) (kept_below ((Below.refl _ _).alloc (Nat.le_refl _) _))) hoF'.rd hoB'.rd
      (fun p hp => PF.out p (List.mem_of_mem_take hp)) (fun p hp => PB.out p (List.mem_of_mem_take hp)) (HS.out r (List.mem_of_getElem? hr)) (by omega) hoF'.cap (by have := hoB'.cap; omega) (by have := HFO.out r (List.mem_of_getElem? hr); omega)
     rw [fits_take run r fore back fo bak (HFO.out r (List.mem_of_getElem? hr)) (HBA.out r (List.mem_of_getElem? hr))] at this
     exact this
    have HM := Lib.hid hM
    have HR := Lib.hid hr
    obtain ⟨A1, n1, c1, A2, n2, c2, A3, n3, c3, A5, n5, c5, A7, n7, c7, hcs, _, r2, _, _, _, _, d2, _⟩ := he
    have L2 := Lib.hid r2.len
    subst hcs
    have g0 := hcc 0 _ rfl
    have g1 := hcc 1 _ rfl
    have g2 := hcc 2 _ rfl
    have g3 := hcc 3 _ rfl
    have g4 := hcc 4 _ rfl
    have g5 := hcc 5 _ rfl
    rw [Nat.add_zero] at g0
    have HM2 := Lib.hid (HM.out _ rfl)
    have jz : (0 : Int) ≤ (j : Int) := by omega
    have jn : (j : Int) < (mn : Int) := by omega
    clear hM HM hcc hc hr r2 d2 hRr
    cases hfit : fits run r fore back with
    | true =>
     rw [hfit] at HM2
     have hn2 : n2 ≤ n4 ∧ n4 ≤ c4 ∧ c4 ≤ 9223372036854775807 ∧ n2 = r.inn.length ∧ r.inn.length ≤ fo := by
      have q1 : r.inn.length + r.ahead.length ≤ fore.length := by
       unfold fits at hfit
       simp only [Bool.and_eq_true, decide_eq_true_eq] at hfit
       exact hfit.1.1.2
      have q2 := HFO.out r (List.mem_of_getElem? HR.out)
      have q3 := hoF.len
      rw [ic_len, natI_len, List.length_take] at q3
      have q4 := L2.out
      have q5 := hoF.cap
      omega
     obtain ⟨z1, z2, z3, z4, z5⟩ := hn2
     have y1 : (n2 : Int) ≤ (c4 : Int) := by omega
     have y2 : (0 : Int) ≤ (n2 : Int) := by omega
     have HFIT := Lib.hid hfit
     have HZ4 := Lib.hid z4
     clear hfit z4
     go_wp2_with fail
     refine HM2.out.mono ?_
     rintro e w7 ⟨rfl, hb7⟩
     have kb := (Bk.new wr 58 #[.slice A1 n1 c1, .slice A2 n2 c2, .slice A3 n3 c3, .slice A5 n5 c5, .slice A7 n7 c7, .int .i64 r.x]).below hb7 (by simp)
     have k1 := kb.cell 1
     simp only [List.getElem?_toArray, List.getElem?_cons_succ, List.getElem?_cons_zero] at k1
     have bb7 := below_call (bbr.alloc bbr.size _) hb7
     have ho7 := (hoF.alloc (.cells #[.slice A1 n1 c1, .slice A2 n2 c2, .slice A3 n3 c3, .slice A5 n5 c5, .slice A7 n7 c7, .int .i64 r.x] 58)).call hb7
     clear HM2 hb7 hoF hoB kb
     go_wp2
     go_quiet (fail)
     go_wp2
     have hans : ans = some (j, fore.take r.inn.length) := by
      rw [HANS.out, firstR_some HR.out HFIT.out HNO.out]; simp
     rw [hans]
     have hpl : (fore.take r.inn.length).length = n2 := by
      have q3 := ho7.len
      rw [ic_len, natI_len, List.length_take] at q3
      have := HZ4.out
      rw [List.length_take]; omega
     go_ret2
     refine ⟨A4, n2, by rw [hpl]; rfl, ?_, ?_, below_drewN bb7 _⟩
     ·rw [hpl]
      have q := SlE.take ho7.rdS n2 z1
      have e : (natI (fore.take fo)).take n2 = natI (fore.take r.inn.length) := by
       rw [← natI_take, List.take_take, HZ4.out]
       congr 2; omega
      rw [e] at q
      exact q
     ·rw [hpl]; exact ⟨Nat.le_refl _, by omega⟩
    | false =>
     rw [hfit] at HM2
     have HFIT := Lib.hid hfit
     clear hfit
     go_wp2_with fail
     refine HM2.out.mono ?_
     rintro e w7 ⟨rfl, hb7⟩
     have bb7 := below_call (bbr.alloc bbr.size _) hb7
     have ho7 := (hoF.alloc (.cells #[.slice A1 n1 c1, .slice A2 n2 c2, .slice A3 n3 c3, .slice A5 n5 c5, .slice A7 n7 c7, .int .i64 r.x] 58)).call hb7
     have ho8 := (hoB.alloc (.cells #[.slice A1 n1 c1, .slice A2 n2 c2, .slice A3 n3 c3, .slice A5 n5 c5, .slice A7 n7 c7, .int .i64 r.x] 58)).call hb7
     clear HM2 hb7 hoF hoB
     go_wp2
     go_roundw
     case rel =>
      refine ⟨j + 1, by omega, by go_num, fun q x hq hx => ?_, bb7, ho7, ho8⟩
      by_cases eq : q = j
      ·subst eq; rw [HR.out] at hx; injection hx with hx; subst hx; exact HFIT.out
      ·exact HNO.out q x (by omega) hx
     case measure => simp [intOf]; omega
   ·go_wp2
    have hans : ans = none := by
     rw [HANS.out, firstR_none fun q x hx => HNO.out q x (by have := (List.getElem?_eq_some_iff.1 hx).1; have := LR.out; omega) hx]
    rw [hans]
    go_ret2
    exact ⟨rfl, bbr⟩
def SB (B : Nat) (w : World) (b : Nat) : Prop := b < B ∨ Sol w b
theorem SB.lt {B : Nat} {w : World} {b : Nat} (h : SB B w b) (hB : B ≤ w.heap.size) : b < w.heap.size := by
 rcases h with h | h
 ·omega
 ·exact h.lt
theorem SB.below {B : Nat} {w w' : World} {b : Nat} (h : SB B w b) (hb : Below w.heap.size w w') : SB B w' b := h.imp id fun h => h.below hb
theorem kept_sb {B : Nat} {w w' : World} (hB : B ≤ w.heap.size) (hb : Below w.heap.size w w') : Kept (SB B w) w w' := fun b h => hb.block b (h.lt hB)
theorem Rd.sb {B : Nat} {w w' : World} {A : Option Addr} {n : Nat} {xs : List Int} (h : Rd w (SB B w) A n xs) (hB : B ≤ w.heap.size) (hb : Below w.heap.size w w') : Rd w' (SB B w') A n xs := h.mono (fun _ h => h.below hb) (kept_sb hB hb)
theorem RdV.sb {B : Nat} {w w' : World} {A : Option Addr} {n : Nat} {xs : List (List Int)} (h : RdV w (SB B w) A n xs) (hB : B ≤ w.heap.size) (hb : Below w.heap.size w w') : RdV w' (SB B w') A n xs := h.mono (fun _ h => h.below hb) (kept_sb hB hb)
theorem Rd.sblo {B : Nat} {w : World} {A : Option Addr} {n : Nat} {xs : List Int} (h : Rd w (SB B w) A n xs) (hB : B ≤ w.heap.size) : Rd w (lo w.heap.size) A n xs := h.mono (fun _ h => h.lt hB) (Kept.refl _ _)
theorem RdV.sblo {B : Nat} {w : World} {A : Option Addr} {n : Nat} {xs : List (List Int)} (h : RdV w (SB B w) A n xs) (hB : B ≤ w.heap.size) : RdV w (lo w.heap.size) A n xs := h.mono (fun _ h => h.lt hB) (Kept.refl _ _)
theorem RdR.sb {B : Nat} {w w' : World} {A : Option Addr} {n : Nat} {xs : List Rul} (h : RdR w (SB B w) A n xs) (hB : B ≤ w.heap.size) (hb : Below w.heap.size w w') : RdR w' (SB B w') A n xs := h.mono (fun _ h => h.below hb) (kept_sb hB hb)
theorem RdR.sblo {B : Nat} {w : World} {A : Option Addr} {n : Nat} {xs : List Rul} (h : RdR w (SB B w) A n xs) (hB : B ≤ w.heap.size) : RdR w (lo w.heap.size) A n xs := h.mono (fun _ h => h.lt hB) (Kept.refl _ _)
def foL (rs : List Rul) : Nat := rs.foldl (fun m r => max m (r.inn.length + r.ahead.length)) 0
def baL (rs : List Rul) : Nat := rs.foldl (fun m r => max m r.back.length) 0
theorem foldl_max_ge {α : Type} (f : α → Nat) (l : List α) (m : Nat) : m ≤ l.foldl (fun m r => max m (f r)) m ∧ ∀ r ∈ l, f r ≤ l.foldl (fun m r => max m (f r)) m := by
 induction l generalizing m with
 | nil => exact ⟨Nat.le_refl _, fun r h => by cases h⟩
 | cons a t ih =>
  obtain ⟨h1, h2⟩ := ih (max m (f a))
  refine ⟨?_, fun r hr => ?_⟩
  ·simp only [List.foldl_cons]; omega
  ·simp only [List.foldl_cons]
   rcases List.mem_cons.1 hr with rfl | hr
   ·omega
   ·exact h2 r hr
theorem foldl_max_le {α : Type} (f : α → Nat) (l : List α) (m M : Nat) (hm : m ≤ M) (h : ∀ r ∈ l, f r ≤ M) : l.foldl (fun m r => max m (f r)) m ≤ M := by
 induction l generalizing m with
 | nil => exact hm
 | cons a t ih => exact ih (max m (f a)) (by have := h a (List.mem_cons_self ..); omega) fun r hr => h r (List.mem_cons_of_mem _ hr)
theorem foL_next {rs : List Rul} {k : Nat} {r : Rul} (h : rs[k]? = some r) : foL (rs.take (k + 1)) = max (foL (rs.take k)) (r.inn.length + r.ahead.length) := by
 unfold foL; rw [List.take_add_one, h]; simp
theorem baL_next {rs : List Rul} {k : Nat} {r : Rul} (h : rs[k]? = some r) : baL (rs.take (k + 1)) = max (baL (rs.take k)) r.back.length := by
 unfold baL; rw [List.take_add_one, h]; simp
def Mt (B : Nat) (W : World) (h : FuncId) (Bm : Nat) (lk : Lk) : Prop := ∃ A n c fo ba, Bk W Bm 195 #[.slice A n c, .bool lk.ign, .func (.func h) #[] #[], .int .i64 ((fo : Nat) : Int), .int .i64 ((ba : Nat) : Int)] ∧ RdR W (SB B W) A n lk.rules ∧ Hd n c ∧
 (∀ r ∈ lk.rules, r.inn.length + r.ahead.length ≤ fo) ∧ (∀ r ∈ lk.rules, r.back.length ≤ ba) ∧ fo ≤ 9223372036854775807 ∧ ba ≤ 9223372036854775807
set_option maxRecDepth 100000 in
set_option maxHeartbeats 2000000 in
theorem newMatcher_c (B : Nat) (h : FuncId) (A : Option Addr) (n c : Nat) (lk : Lk) (w : World) (hB : B ≤ w.heap.size) (hA : RdR w (SB B w) A n lk.rules) (hd : Hd n c) (hn : n ≤ 9223372036854775806) (hsum : ∀ r ∈ lk.rules, r.inn.length + r.ahead.length ≤ 9223372036854775807) (hbk : ∀ r ∈ lk.rules, r.back.length ≤ 9223372036854775807) :
  Calls Tryd.prog 55 #[.agg #[.int .i64 lk.kind, .bool lk.ign, .slice A n c], .func (.func h) #[] #[]] w fun e w' => ∃ Bm, e = .returned (.pointer (some ⟨Bm, 0, none⟩)) ∧ w.heap.size ≤ Bm ∧ Mt B w' h Bm lk ∧ Below w.heap.size w w' := by
 have HL := Lib.hid hA.len
 have HS := Lib.hid hsum; have HK := Lib.hid hbk; clear hsum hbk
 go_enter Tryd.func55, Tryd.ntmps55
 go_wp2
 obtain ⟨Bm, hBm⟩ : ∃ Bm, Bm = w.heap.size + 1 := ⟨_, rfl⟩
 obtain ⟨w1, hw1⟩ : ∃ w1, w1 = (w.alloc (.cells #[.int .i64 lk.kind, .bool lk.ign, .slice A n c] 55)).alloc (.cells #[.slice A n c, .bool lk.ign, .func (.func h) #[] #[], .int .i64 0, .int .i64 0] 195) := ⟨_, rfl⟩
 have k1 : Bk w1 Bm 195 #[.slice A n c, .bool lk.ign, .func (.func h) #[] #[], .int .i64 0, .int .i64 0] := by
  have q := Bk.new (w.alloc (.cells #[.int .i64 lk.kind, .bool lk.ign, .slice A n c] 55)) 195 #[.slice A n c, .bool lk.ign, .func (.func h) #[] #[], .int .i64 0, .int .i64 0]
  rw [World.size_alloc] at q
  rw [hw1, hBm]; exact q
 have bw : Below w.heap.size w w1 := by rw [hw1]; exact below_lit _ _ (below_lit _ _ (Below.refl _ _) _) _
 rw [← hw1, ← hBm]
 have HBM := Lib.hid hBm
 have hBm2 : w.heap.size < Bm := by omega
 clear hw1 hBm
 go_loopw [18] (fun i wr => ∃ (k fo ba : Nat), k ≤ n ∧ i = .int .i64 k ∧ Bk wr Bm 195 #[.slice A n c, .bool lk.ign, .func (.func h) #[] #[], .int .i64 (fo : Int), .int .i64 (ba : Int)] ∧ fo = foL (lk.rules.take k) ∧ ba = baL (lk.rules.take k) ∧ Below w.heap.size w wr) (fun i _ => n - (intOf i).toNat)
 case atStart => exact ⟨0, 0, 0, by omega, rfl, k1, rfl, rfl, bw⟩
 case round =>
  obtain ⟨k, fo, ba, hk, rfl, kr, hfo, hba, hbr⟩ := hrel
  clear k1 bw
  have bfo : fo ≤ 9223372036854775807 := by rw [hfo]; exact foldl_max_le _ _ _ _ (by omega) fun r hr => HS.out r (List.mem_of_mem_take hr)
  have bba : ba ≤ 9223372036854775807 := by rw [hba]; exact foldl_max_le _ _ _ _ (by omega) fun r hr => HK.out r (List.mem_of_mem_take hr)
  have HFO := Lib.hid hfo; have HBA := Lib.hid hba; clear hfo hba
  by_cases hlt : k < n
  ·obtain ⟨r, hr⟩ := at_some lk.rules k (by have := HL.out; omega)
   obtain ⟨b, o, rfl, _, hc⟩ := (hA.sb hB hbr).pos (by omega)
   obtain ⟨cs, he, hcc⟩ := hc k r hr
   obtain ⟨A1, n1, c1, A2, n2, c2, A3, n3, c3, A5, n5, c5, A7, n7, c7, rfl, r1, r2, r3, _, _, d1, d2, d3, _⟩ := he
   have L1 := Lib.hid r1.len; have L2 := Lib.hid r2.len; have L3 := Lib.hid r3.len
   have g0 := hcc 0 _ rfl
   have g1 := hcc 1 _ rfl
   have g2 := hcc 2 _ rfl
   have g3 := hcc 3 _ rfl
   have g4 := hcc 4 _ rfl
   have g5 := hcc 5 _ rfl
   rw [Nat.add_zero] at g0
   have s1 : n2 + n3 ≤ 9223372036854775807 := by have := HS.out r (List.mem_of_getElem? hr); have := L2.out; have := L3.out; omega
   have s2 : (n2 : Int) + (n3 : Int) ≤ 9223372036854775807 := by omega
   have HR := Lib.hid hr
   clear hcc hc hr r1 r2 r3 d1 d2 d3 s1
   have kz : (0 : Int) ≤ (k : Int) := by omega
   have kn : (k : Int) < (n : Int) := by omega
   have hbs := kr.lt
   have ce3 : wr.cell? ⟨Bm, 3, none⟩ = some (.int .i64 (fo : Int)) := by have := kr.cell 3; simpa using this
   have ce4 : wr.cell? ⟨Bm, 4, none⟩ = some (.int .i64 (ba : Int)) := by have := kr.cell 4; simpa using this
   have fe3 := kr.frozen 3
   have fe4 := kr.frozen 4
   have hne : Bm ≠ wr.heap.size := by omega
   go_wp2
   go_region
   have hx3 : max (fo : Int) ((n2 : Int) + (n3 : Int)) = ((max fo (n2 + n3) : Nat) : Int) := by omega
   have hx3'' : True := trivial
   have hx3' : (if (fo : Int) < ((n2 : Int) + (n3 : Int)) then ((n2 : Int) + (n3 : Int)) else (fo : Int)) = ((max fo (n2 + n3) : Nat) : Int) := by split <;> omega
   first | rw [hx3] | rw [hx3'] | rw [hx3'']
   clear hx3' hx3''
   have bx3 : max fo (n2 + n3) ≤ 9223372036854775807 := by omega
   obtain ⟨fo', hfo'⟩ : ∃ fo', fo' = max fo (n2 + n3) := ⟨_, rfl⟩
   rw [← hfo'] at bx3 ⊢
   generalize hw5 : ((wr.setCell ⟨Bm, 3, none⟩ (.int .i64 (fo' : Int))).alloc (.cells #[.slice A1 n1 c1, .slice A2 n2 c2, .slice A3 n3 c3, .slice A5 n5 c5, .slice A7 n7 c7, .int .i64 r.x] 58)).drew = w5
   have k5 : Bk w5 Bm 195 #[.slice (some ⟨b, o, none⟩) n c, .bool lk.ign, .func (.func h) #[] #[], .int .i64 (fo' : Int), .int .i64 (ba : Int)] := by
    rw [← hw5]; exact (kr.set_ 3 _).alloc _
   have q5 : Bk w5 wr.heap.size 58 #[.slice A1 n1 c1, .slice A2 n2 c2, .slice A3 n3 c3, .slice A5 n5 c5, .slice A7 n7 c7, .int .i64 r.x] := by
    rw [← hw5]
    have q := Bk.new (wr.setCell ⟨Bm, 3, none⟩ (.int .i64 (fo' : Int))) 58 #[.slice A1 n1 c1, .slice A2 n2 c2, .slice A3 n3 c3, .slice A5 n5 c5, .slice A7 n7 c7, .int .i64 r.x]
    have hz : (wr.setCell ⟨Bm, 3, none⟩ (.int .i64 (fo' : Int))).heap.size = wr.heap.size := by simp
    rw [hz] at q
    exact q
   have b5 : Below w.heap.size w w5 := by
    rw [← hw5]
    have q := (hbr.setCell (p := ⟨Bm, 3, none⟩) (by dsimp only; omega) (.int .i64 (fo' : Int))).alloc (by simp; exact hbr.size) (.cells #[.slice A1 n1 c1, .slice A2 n2 c2, .slice A3 n3 c3, .slice A5 n5 c5, .slice A7 n7 c7, .int .i64 r.x] 58)
    exact ⟨q.os, q.tape, q.output, q.size, q.block⟩
   have HFP := Lib.hid hfo'
   clear hw5 ce3 ce4 fe3 fe4 hx3 hfo' g0 g1 g2 g3 g4 g5
   have ce4 : w5.cell? ⟨Bm, 4, none⟩ = some (.int .i64 (ba : Int)) := by have := k5.cell 4; simpa using this
   have fe4 := k5.frozen 4
   have ce0 : w5.cell? ⟨wr.heap.size, 0, none⟩ = some (.slice A1 n1 c1) := by have := q5.cell 0; simpa using this
   go_wp2
   go_region
   have hx4 : max (ba : Int) (n1 : Int) = ((max ba n1 : Nat) : Int) := by omega
   have hx4'' : (if ba < n1 then (n1 : Int) else (ba : Int)) = ((max ba n1 : Nat) : Int) := by split <;> omega
   have hx4' : (if (ba : Int) < (n1 : Int) then (n1 : Int) else (ba : Int)) = ((max ba n1 : Nat) : Int) := by split <;> omega
   first | rw [hx4] | rw [hx4'] | rw [hx4'']
   clear hx4' hx4''
   have k6 : Bk (w5.setCell ⟨Bm, 4, none⟩ (.int .i64 ((max ba n1 : Nat) : Int))).drew Bm 195 #[.slice (some ⟨b, o, none⟩) n c, .bool lk.ign, .func (.func h) #[] #[], .int .i64 (fo' : Int), .int .i64 ((max ba n1 : Nat) : Int)] := k5.set_ 4 _
   have b6 : Below w.heap.size w (w5.setCell ⟨Bm, 4, none⟩ (.int .i64 ((max ba n1 : Nat) : Int))).drew := by
    have q := b5.setCell (p := ⟨Bm, 4, none⟩) (by dsimp only; omega) (.int .i64 ((max ba n1 : Nat) : Int))
    exact ⟨q.os, q.tape, q.output, q.size, q.block⟩
   go_wp2
   go_roundw
   case rel =>
    refine ⟨k + 1, fo', max ba n1, by omega, by go_num, k6, ?_, ?_, b6⟩
    ·rw [HFP.out, HFO.out, foL_next HR.out, L2.out, L3.out]
    ·rw [HBA.out, baL_next HR.out, L1.out]
   case measure => simp [intOf]; omega
  ·go_wp2
   go_ret
   refine ⟨Bm, rfl, by omega, ?_, hbr⟩
   have e : lk.rules.take k = lk.rules := List.take_of_length_le (by have := HL.out; omega)
   have e1 := HFO.out
   have e2 := HBA.out
   rw [e] at e1 e2
   exact ⟨A, n, c, fo, ba, kr, hA.sb hB hbr, hd, by rw [e1]; exact (foldl_max_ge _ _ _).2, by rw [e2]; exact (foldl_max_ge _ _ _).2, bfo, bba⟩
end Go.Proofs.YtgcmedkaadagmaaDoor
