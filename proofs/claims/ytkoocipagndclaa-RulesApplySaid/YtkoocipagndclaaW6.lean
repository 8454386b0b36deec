/- Walks: first. -/
import Derived.Test.YtkoocipagndclaaOw
namespace Go.Proofs.Ytkoocipagndclaa
open Go.RowKit Go.Shelf
attribute [local go_sem] Oper.semAt_some

/-- So far: the places that have come, in a row of the call's own. B: the heap's size at the call. -/
def FS (B H most : Nat) (w : World) (pre : List Nat) (W : World) : Prop :=
  ∃ A m c, Bk W (B + 1) 29 #[.slice A m c] ∧ Ow 3 1 W H A m c (ic (natI pre)) ∧ m = pre.length ∧ Bk W B 3 #[.int .i64 (most : Int)] ∧ Below B w W ∧ H ≤ W.heap.size
theorem FS.own (B H K most : Nat) (w : World) (hK : B ≤ K) : OwnFrom K (FS B H most w) := by
  intro pre X Y row h hg hr
  obtain ⟨A, m, c, h1, h2, h3, h4, h5, h6⟩ := h
  refine ⟨A, m, c, h1.own_ hg hr, h2.own_ hg hr, h3, h4.own_ hg hr, ?_, Nat.le_trans h6 hg.size⟩
  exact h5.grown hg (by have := h4.lt; omega) (fun k e => by have := (hr k e).1; omega)

set_option maxRecDepth 100000 in
set_option maxHeartbeats 2000000 in
theorem first_c (most Bd N : Nat) (lb : Array Value) (full : List Nat) (w : World) (hseq : SeqStopsK Fence.wide 4 Try.prog 54 lb (fun (x : Nat) => #[.int .i64 (x : Int)]) (Kept (lo Bd)) (fun l => l = full) (Pre full) N w)
    (hBd : Bd ≤ w.heap.size) (hN : N ≤ 3000000000000) (hmost : most ≤ 9223372036854775807) :
    Calls Try.prog 38 #[.int .i64 (most : Int), .func (.func 54) #[] lb] w fun e w' => ∃ A n c, e = .returned (.slice A n c) ∧ Ow 3 1 w' w.heap.size A n c (ic (natI (full.take most))) ∧ Below w.heap.size w w' := by
  by_cases h0 : most = 0
  · subst h0
    go_enter Try.func38, Try.ntmps38
    go_wp2
    go_ret
    exact ⟨_, _, _, rfl, (Ow.nil _ _ _ _).alloc _, (Below.refl _ _).alloc (Nat.le_refl _) _⟩
  · have e0 : ((most : Int) == 0) = false := by simp; omega
    have e0' : (most == 0) = false := by simp; omega
    refine (callsIn_wide (n := 5)).1 ?_
    have hFw : ∀ k, Fence.wide.fn k := fun _ => trivial
    refine callsIn_of_wp_marks Try.func38 rfl trivial ?_ rfl
    simp only [Try.ntmps38, List.size_toArray, List.length_cons, List.length_nil, Nat.reduceAdd, Nat.reduceSub, Array.replicate_succ, Array.replicate_zero, List.push_toArray, List.append_toArray, List.nil_append, List.cons_append]
    gi_wp2
    obtain ⟨B, hB⟩ : ∃ B, B = w.heap.size := ⟨_, rfl⟩
    obtain ⟨w1, hw1⟩ : ∃ w1, w1 = (w.alloc (.cells #[.int .i64 (most : Int)] 3)).alloc (.cells #[.slice none 0 0] 29) := ⟨_, rfl⟩
    have s1 : w1.heap.size = B + 1 + 1 := by rw [hw1, hB]; simp
    have k0 : Bk w1 B 3 #[.int .i64 (most : Int)] := by rw [hw1, hB]; exact (Bk.new _ _ _).alloc _
    have k1 : Bk w1 (B + 1) 29 #[.slice none 0 0] := by
      have h := Bk.new (w.alloc (.cells #[.int .i64 (most : Int)] 3)) 29 #[.slice none 0 0]
      rw [World.size_alloc] at h
      rw [hw1, hB]; exact h
    have bw : Below B w w1 := by rw [hw1, hB]; exact below_lit _ _ (below_lit _ _ (Below.refl _ _) _) _
    rw [← hw1, ← hB]
    rw [← hB] at hBd
    have HS1 := Lib.hid s1; have HB := Lib.hid hB
    have bd1 : Bd ≤ w1.heap.size := by omega
    have bw0 : Below w.heap.size w w1 := by rw [← hB]; exact bw
    have n1 : B + 1 < w1.heap.size := by omega
    clear s1 hw1 hB
    refine wpIn_rangeFunc_ownH rfl (by omega) (gf := 54) (lb := lb) rfl trivial (enters_of Try.func54 (by kernel_rfl) rfl)
      hseq (fun h k => h.trans k)
      (fun W l o o' hl ho _ _ => fun k hk => World.putObj_heap_other (by unfold lo at hk; omega)) bw0 (fun _ => rfl)
      (fun pre W => FS B w1.heap.size most w pre W ∧ pre.length < most) (fun c pre W => c = .exit 0 ∧ FS B w1.heap.size most w pre W ∧ pre.length = most)
      (fun pre X Y row h hg hr => ⟨FS.own B w1.heap.size w1.heap.size most w (by omega) pre X Y row h.1 hg hr, h.2⟩) (fun c pre X Y row h hg hr => ⟨h.1, FS.own B w1.heap.size w1.heap.size most w (by omega) pre X Y row h.2.1 hg hr, h.2.2⟩)
      ⟨⟨none, 0, 0, k1, Ow.nil _ _ _ _, rfl, k0, bw, Nat.le_refl _⟩, by simp; omega⟩
      (fun x a' W => a' = { tmps := #[Value.int .i64 (most : Int), Value.func (Fn.func 54) #[] lb, Value.pointer (some { block := B, off := 0 }), undef, Value.slice none 0 0, Value.pointer (some { block := B + 1, off := 0 }), Value.int .i64 (x : Int), Value.int .i64 (most : Int),
          Value.bool false, Value.func (Fn.func 54) #[] lb, Value.int .i64 (x : Int), undef, undef, undef, undef, undef, undef, undef, undef, undef], defers := [] }) ?hax ?assign ?body ?done ?stop
    case hax =>
      rintro x a' _ X Y row h hg hr
      exact h
    case assign =>
      rintro l pre x W K hi hK
      gi_wp2
      exact hK _ _ (KeepsFrom.refl _ _) (Kept.refl _ _) hi rfl
    case body =>
      rintro l pre x a' W hl _ ⟨⟨A, m, c, h1, h2, h3, h4, h5, h6⟩, hlt⟩ rfl hlen
      have c1 := h1.cell 0
      simp only [List.getElem?_toArray, List.getElem?_cons_zero] at c1
      have hA : ∀ g, A.map (·.block) = some g → w1.heap.size ≤ g := fun g e => (h2.blk g e).1
      have n1' : some (B + 1) ≠ A.map (·.block) := fun e => by have := hA _ e.symm; omega
      have n0' : some B ≠ A.map (·.block) := fun e => by have := hA _ e.symm; omega
      have hm : m < most := by omega
      have hmN : m ≤ 3000000000000 := by omega
      have fin : ∀ (A2 : Option Addr) (c2 : Nat) (w2 : World), Ow 3 1 w2 w1.heap.size A2 (m + 1) c2 (ic (natI pre) ++ [.int .i64 (x : Int)]) → (W.alloc (.cells #[.int .i64 (x : Int)] 3)).grownBy w2 (A.map (·.block)) →
          Bk w2 (B + 1) 29 #[.slice A m c] ∧ Bk w2 B 3 #[.int .i64 (most : Int)] ∧
          (∀ W', W' = w2.setCell ⟨B + 1, 0, none⟩ (.slice A2 (m + 1) c2) → KeepsFrom w1.heap.size W W' ∧ Kept (lo Bd) W W' ∧ FS B w1.heap.size most w (pre ++ [x]) W' ∧ W'.cell? ⟨B + 1, 0, none⟩ = some (.slice A2 (m + 1) c2) ∧ W'.cell? ⟨B, 0, none⟩ = some (.int .i64 (most : Int))) := by
        intro A2 c2 w2 ho2 hg2'
        have hg2 : W.grownBy w2 (A.map (·.block)) := (World.grownBy_alloc W _ _).trans hg2'
        have q1 := h1.grown hg2 n1'
        have q4 := h4.grown hg2 n0'
        refine ⟨q1, q4, ?_⟩
        rintro W' rfl
        have hko : KeepsOthers W w2 := KeepsOthers.of_grownBy hg2 (fun j o e ho => by
          obtain ⟨_, _, _, cur, hh⟩ := h2.blk j e
          rw [hh] at ho; injection ho with ho; subst ho; rfl)
        have hb2 : Below B W w2 := (Below.refl _ _).grown hg2 (by omega) (fun k e => by have := hA k e; omega)
        have hsz2 := hg2.size
        have a2 : ∀ b, A2 = some ⟨b, 0, none⟩ → w1.heap.size ≤ b := fun b e => (ho2.lt b 0 none e).1
        have kk := q1.set_ 0 (.slice A2 (m + 1) c2)
        have k4 : Bk (w2.setCell ⟨B + 1, 0, none⟩ (.slice A2 (m + 1) c2)) B 3 #[.int .i64 (most : Int)] := q4.far (by dsimp only; omega) _
        refine ⟨(hko.trans (KeepsOthers.setCell _ _ _)).from _, fun k hk => ?_, ⟨A2, m + 1, c2, kk, ?_, by simp [h3], k4, (h5.trans hb2).setCell (by dsimp only; omega) _, by simp; omega⟩, ?_, ?_⟩
        · unfold lo at hk
          rw [Below.heap_setCell _ _ _ _ (by dsimp only; omega)]
          exact hb2.block k (by omega)
        · have e : ic (natI (pre ++ [x])) = ic (natI pre) ++ [.int .i64 (x : Int)] := by simp [ic, natI]
          rw [e]
          exact ho2.setOther (fun b e => by have := a2 b e; dsimp only; omega) _
        · have := kk.cell 0; simpa using this
        · have := k4.cell 0; simpa using this
      have FIN := Lib.hid fin; clear fin
      have HLN := Lib.hid hlen; have HL3 := Lib.hid h3
      clear n1' n0' hA hlen h3 h4 h5 h6
      have hs6 : w1.heap.size ≤ W.heap.size := by have := h1.lt; have := HS1.out; omega
      by_cases hend : m + 1 = most
      · have t1 : (((m : Int) + 1) == (most : Int)) = true := by simp; omega
        have t2 : ((m + 1) == most) = true := by simp; omega
        have HEND := Lib.hid hend; clear hend
        gi_wp2_with (gi_at_builtin; refine appIn elt_int rfl (.tmp 11) (.tmp 13) rfl (W.alloc (.cells #[.int .i64 (x : Int)] 3)) w1.heap.size _ _ _ _ _ _ _ [.int .i64 (x : Int)] (by rfl) (by rfl) (h2.alloc _) rfl (news_new _ _ _) (by simp [Value.oneCell']) (by omega) (by simp; omega) ?_; intro A2 c2 w2 ho2 hg2 hb2 hat2; obtain ⟨q1, q4, FF⟩ := FIN.out A2 c2 w2 ho2 hg2; have FF2 := Lib.hid (FF _ rfl); clear FF; have qc := q1.cell 0; have qf := q1.frozen 0; simp only [List.getElem?_toArray, List.getElem?_cons_zero] at qc; have z1 := FF2.out.2.2.2.1; have z2 := FF2.out.2.2.2.2)
        obtain ⟨f1, _, f3, _⟩ := FF2.out
        exact ⟨f1, rfl, f3, by simp; have := HEND.out; have := HL3.out; omega⟩
      · have t1 : (((m : Int) + 1) == (most : Int)) = false := by simp; omega
        have t2 : ((m + 1) == most) = false := by simp; omega
        have HEND := Lib.hid hend; clear hend
        gi_wp2_with (gi_at_builtin; refine appIn elt_int rfl (.tmp 11) (.tmp 13) rfl (W.alloc (.cells #[.int .i64 (x : Int)] 3)) w1.heap.size _ _ _ _ _ _ _ [.int .i64 (x : Int)] (by rfl) (by rfl) (h2.alloc _) rfl (news_new _ _ _) (by simp [Value.oneCell']) (by omega) (by simp; omega) ?_; intro A2 c2 w2 ho2 hg2 hb2 hat2; obtain ⟨q1, q4, FF⟩ := FIN.out A2 c2 w2 ho2 hg2; have FF2 := Lib.hid (FF _ rfl); clear FF; have qc := q1.cell 0; have qf := q1.frozen 0; simp only [List.getElem?_toArray, List.getElem?_cons_zero] at qc; have z1 := FF2.out.2.2.2.1; have z2 := FF2.out.2.2.2.2)
        obtain ⟨f1, f2, f3, _⟩ := FF2.out
        exact ⟨f1, f2, f3, by simp; have := HEND.out; have := HL3.out; omega⟩
    case done =>
      rintro D ys W hD rfl ⟨⟨A, m, c, h1, h2, h3, h4, h5, h6⟩, hlt⟩ hK
      have c1 := h1.cell 0
      simp only [List.getElem?_toArray, List.getElem?_cons_zero] at c1
      have HLT := Lib.hid hlt
      clear h3 hlt
      gi_wp2
      refine ⟨by simp, .inl ⟨_, _, rfl, run_takeDeferred hK, ?_⟩⟩
      have hgp := grownBy_putObj' W D (.deferred none)
      have hrr : ∀ r, some D = some r → w1.heap.size ≤ r ∧ ∃ o : Obj, W.heap[r]? = some o ∧ o.isCells = false := fun r e => by cases e; exact ⟨hD, _, hK, rfl⟩
      refine ⟨_, results_tmp rfl _ _ _, A, m, c, rfl, ?_, ?_⟩
      · rw [← HB.out, List.take_of_length_le (by have := HLT.out; omega)]; exact (h2.own_ hgp hrr).lower (by omega)
      · rw [← HB.out]; exact h5.grown hgp (by have := h1.lt; omega) (fun k e => by have := (hrr k e).1; omega)
    case stop =>
      rintro D cc pre W hD ⟨t, hSp⟩ ⟨rfl, ⟨A, m, c, h1, h2, h3, h4, h5, h6⟩, hlt⟩ hK
      have c1 := h1.cell 0
      simp only [List.getElem?_toArray, List.getElem?_cons_zero] at c1
      have HSP := Lib.hid hSp; have HLT := Lib.hid hlt
      clear h3 hlt hSp
      gi_wp2
      refine ⟨by simp, .inl ⟨_, _, rfl, run_takeDeferred hK, ?_⟩⟩
      have hgp := grownBy_putObj' W D (.deferred none)
      have hrr : ∀ r, some D = some r → w1.heap.size ≤ r ∧ ∃ o : Obj, W.heap[r]? = some o ∧ o.isCells = false := fun r e => by cases e; exact ⟨hD, _, hK, rfl⟩
      refine ⟨_, results_tmp rfl _ _ _, A, m, c, rfl, ?_, ?_⟩
      · rw [← HB.out, HSP.out, ← HLT.out, List.take_left']
        · exact (h2.own_ hgp hrr).lower (by omega)
        · rfl
      · rw [← HB.out]; exact h5.grown hgp (by have := h1.lt; omega) (fun k e => by have := (hrr k e).1; omega)
end Go.Proofs.Ytkoocipagndclaa
