/- Walks: the law's ranges. -/
import Derived.Test.YtladdpfngoldcaaW7
namespace Go.Proofs.Ytladdpfngoldcaa
open Go.RowKit Go.Shelf
attribute [local go_sem] Oper.semAt_some

theorem own2_keep {w w' : World} {base n c : Nat} {A : Option Addr} {l : List (Int × Int)} (h : Ow2 w base A n c l) (hk : ∀ b, A = some ⟨b, 0, none⟩ → w'.heap[b]? = w.heap[b]?) : Ow2 w' base A n c l := by
  refine ⟨h.1, ?_⟩
  rcases h.2 with h | ⟨g, cap, cur, e, h1, h2, rest⟩
  · exact .inl h
  · have e1 : A = some ⟨g, 0, none⟩ := by injection e
    exact .inr ⟨g, cap, cur, e, h1, (hk g e1).trans h2, rest⟩
theorem own2_lt {w : World} {base n c : Nat} {A : Option Addr} {l : List (Int × Int)} (h : Ow2 w base A n c l) : ∀ b, A.map (·.block) = some b → base ≤ b ∧ b < w.heap.size ∧ A = some ⟨b, 0, none⟩ ∧ ∃ cur fr, w.heap[b]? = some (.cells cur 30 fr) := by
  intro b e
  rcases h.2 with ⟨h1, _⟩ | ⟨g, cap, cur, e1, h1, h2, rest⟩
  · injection h1 with h1; subst h1; cases e
  · injection e1 with e1; subst e1
    simp at e; subst e
    exact ⟨h1, (Array.getElem?_eq_some_iff.1 h2).1, rfl, cur, _, h2⟩
theorem own2_own {w w' : World} {base n c : Nat} {A : Option Addr} {l : List (Int × Int)} (h : Ow2 w base A n c l) {row : Option Nat} (hg : w.grownBy w' row) {B : Nat} (hr : ∀ r, row = some r → B ≤ r ∧ ∃ o : Obj, w.heap[r]? = some o ∧ o.isCells = false) : Ow2 w' base A n c l := by
  refine own2_keep h fun b e => ?_
  obtain ⟨_, hlt, _, cur, fr, hh⟩ := own2_lt h b (by rw [e]; rfl)
  refine hg.block b hlt (fun e2 => ?_)
  obtain ⟨_, o, ho, hc⟩ := hr b e2.symm
  rw [hh] at ho; injection ho with ho; subst ho; cases hc
theorem own2_empty (w : World) : Ow2 (w.alloc (.cells #[] 30)) w.heap.size (some ⟨w.heap.size, 0, none⟩) 0 0 [] :=
  ⟨rfl, .inr ⟨w.heap.size, 0, #[], rfl, Nat.le_refl _, heap_alloc_new w _, Nat.le_refl _, by unfold maxLen; omega, rfl, rfl⟩⟩
theorem in64_of {xs : List Int} (h : In64 xs) : In64 (ofL xs) := fun x hx => h x ((ofL_mem xs x).1 hx)

theorem equalIn_func (d : Nat) (w : World) (f : Fn) (bs lb : Array Value) : Sem.run Try.prog (Op.equalIn (d + 1) 33 (Value.func f bs lb) .nilFunc) w = .ok false w := by
  unfold Op.equalIn
  simp [run_underlying Try.underlying33]
theorem nil_cmp (w : World) (lb : Array Value) : Sem.run Try.prog (binOp .eql 33 (Value.func (Fn.func 40) #[] lb) .nilFunc) w = .ok (.bool false) w := by
  simp only [binOp, Op.equal, Sem.run_bind, Sem.run_pure]
  rw [show Op.maxDepth = (Op.maxDepth - 1) + 1 from rfl, equalIn_func]
  rfl
theorem Bk.ne2 {w : World} {g : Nat} {t : TypeId} {cs : Array Value} (h : Bk w g t cs) (ht : t ≠ 30) {base n c : Nat} {A : Option Addr} {l : List (Int × Int)} (ho : Ow2 w base A n c l) : some g ≠ A.map (·.block) := fun e => by
  obtain ⟨_, _, _, cur, fr, hh⟩ := own2_lt ho g e.symm
  unfold Bk at h; rw [h] at hh; injection hh with hh; injection hh with _ h2; exact ht h2

/-- The state of the loop when the ranges 'pre' have come: B, the heap's size at the call; H, that at the loop. -/
def RI (R : Option Addr) (n c B H Bx : Nat) (w : World) (pre : List (Int × Int)) (W : World) : Prop :=
  (∃ A m c', Bk W (B + 1) 26 #[.slice A m c'] ∧ Ow2 W B A m c' pre ∧ m = pre.length ∧ (∀ g, A.map (·.block) = some g → g = B ∨ H ≤ g)) ∧ Bk W Bx 22 #[.slice R n c] ∧ Below B w W ∧ H ≤ W.heap.size

theorem RI.own (R : Option Addr) (n c B H Bx K : Nat) (w : World) (hK : B ≤ K) : OwnFrom K (RI R n c B H Bx w) := by
  intro pre X Y row h hg hr
  obtain ⟨⟨A, m, c', h1, h2, h3, h4⟩, h5, h6, h7⟩ := h
  refine ⟨⟨A, m, c', h1.own_ hg hr, own2_own h2 hg hr, h3, h4⟩, h5.own_ hg hr, ?_, Nat.le_trans h7 hg.size⟩
  exact h6.grown hg (by have := h1.lt; omega) (fun k e => by have := (hr k e).1; omega)

set_option maxRecDepth 100000 in
set_option maxHeartbeats 2000000 in
theorem lranges_c (R0 : Option Addr) (n0 c0 : Nat) (xs : List Int) (w : World) (hR : Rd w w.heap.size R0 n0 xs) (hn : n0 ≤ 1000) (hin : In64 xs) :
    Calls Try.prog 16 #[.slice R0 n0 c0] w fun e w' => ∃ A m c', e = .returned (.slice A m c') ∧ m ≤ n0 ∧ Ow2 w' w.heap.size A m c' (rgs (ofL xs)) ∧ Below w.heap.size w w' := by
  refine (callsIn_wide (n := 5)).1 ?_
  have hFw : ∀ k, Fence.wide.fn k := fun _ => trivial
  have GG := fun (w0 : World) (h0 : Rd w0 w0.heap.size R0 n0 xs) => (callsIn_wide (n := 4)).2 (ranges_c R0 n0 c0 xs w0 h0 (by omega))
  have GC := Lib.hid GG; clear GG
  refine callsIn_of_wp_marks Try.func16 rfl trivial ?_ rfl
  simp only [Try.ntmps16, List.size_toArray, List.length_cons, List.length_nil, Nat.reduceAdd, Nat.reduceSub, Array.replicate_succ, Array.replicate_zero, List.push_toArray, List.append_toArray, List.nil_append, List.cons_append]
  gi_wp2_with fail
  refine (GC.out _ ((hR.lit _).lit _)).mono ?_
  rintro e w1 ⟨Bx, R, n, c, rfl, hBx, hn1, kx, ho1, hb1⟩
  obtain ⟨B, hB⟩ : ∃ B, B = w.heap.size := ⟨_, rfl⟩
  have hs0 : ((w.alloc (.cells #[] 30)).alloc (.cells #[.slice (some ⟨w.heap.size, 0, none⟩) 0 0] 26)).heap.size = B + 1 + 1 := by rw [hB]; simp
  have k1 : Bk w1 (B + 1) 26 #[.slice (some ⟨B, 0, none⟩) 0 0] := by
    have h := Bk.new (w.alloc (.cells #[] 30)) 26 #[.slice (some ⟨w.heap.size, 0, none⟩) 0 0]
    rw [World.size_alloc] at h
    rw [hB]; exact h.below hb1 (by simp)
  have k2 : Ow2 w1 B (some ⟨B, 0, none⟩) 0 0 [] := by
    rw [hB]
    refine own2_keep (own2_empty w) fun b e => ?_
    injection e with e; injection e with e; subst e
    rw [hb1.block _ (by simp; omega)]
    exact Below.heap_alloc _ _ _ (by simp)
  have hbw : Below B w w1 := by
    rw [hB]
    exact (below_lit _ _ (below_lit _ _ (Below.refl _ _) _) _).trans (hb1.mono (by simp; omega))
  rw [hs0] at hBx ho1
  have hsz := hb1.size
  rw [hs0] at hsz
  rw [← hB]
  have HB := Lib.hid hB
  clear hB hb1 hs0 hR
  have hRw := ho1.rd
  have hlo : ∀ b o, R = some ⟨b, o, none⟩ → B + 1 + 1 ≤ b := fun b o e => (ho1.lt b o none e).1
  have hT := ofL_srt xs
  have hin2 := in64_of hin
  have hrl := rgs_length (ofL xs)
  rw [hRw.len] at hrl
  have kxlt := kx.lt
  have hst := ranges1_stops 4 R n c Bx (B + 1 + 1) w1.heap.size (ofL xs) w1 (by omega) (by omega) (kx.cell 0) kx.lt hRw (Nat.le_refl _) hlo hT hin2
  have hnc := nil_cmp w1 #[.pointer (some ⟨Bx, 0, none⟩)]
  gi_wp2
  refine wpIn_rangeFunc_ownH rfl (by omega) (gf := 40) (lb := #[.pointer (some ⟨Bx, 0, none⟩)]) rfl trivial (enters_of Try.func40 (by kernel_rfl) rfl)
    hst (fun h k => h.trans k)
    (fun W l o o' hl ho _ _ => ⟨World.putObj_heap_other (by omega), fun k _ hk => World.putObj_heap_other (by omega)⟩) (Below.refl _ _) (fun _ => rfl)
    (RI R n c B w1.heap.size Bx w) (fun _ _ _ => False) (RI.own R n c B w1.heap.size Bx _ w (by omega)) (fun _ _ _ _ _ h _ _ => h)
    ⟨⟨some ⟨B, 0, none⟩, 0, 0, k1, k2, rfl, fun g e => .inl (by injection e with e; exact e.symm)⟩, kx, hbw, Nat.le_refl _⟩
    (fun x a' W => a' = { tmps := #[Value.slice R0 n0 c0, undef, Value.slice none 0 0, Value.pointer (some { block := B + 1, off := 0 }), Value.func (Fn.func 40) #[] #[Value.pointer (some { block := Bx, off := 0 })],
          Value.int .i64 x.1, Value.int .i64 x.2, Value.slice (some { block := B, off := 0 }) 0 0, Value.slice R0 n0 c0, Value.func (Fn.func 40) #[] #[Value.pointer (some { block := Bx, off := 0 })], Value.func (Fn.func 40) #[] #[Value.pointer (some { block := Bx, off := 0 })], Value.bool false, Value.func (Fn.func 40) #[] #[Value.pointer (some { block := Bx, off := 0 })],
          Value.int .i64 x.1, Value.int .i64 x.2, undef, undef, undef, undef, undef, undef, undef], defers := [] }) ?hax ?assign ?body ?done ?stop
  case hax =>
    rintro x a' _ X Y row h hg hr
    exact h
  case stop => rintro D c pre W _ _ h _; exact h.elim
  case assign =>
    rintro l pre x W K hi hK
    gi_wp2
    exact hK _ _ (KeepsFrom.refl _ _) (Kp.refl _ _ _ _) hi rfl
  case body =>
    rintro l pre x a' W hl _ ⟨⟨A, m, c', h1, h2, h3, h4⟩, h5, h6, h7⟩ rfl hlen
    obtain ⟨xa, xb⟩ := x
    have c1 := h1.cell 0
    have f1 := h1.frozen 0
    simp only [List.getElem?_toArray, List.getElem?_cons_zero] at c1
    have n1 := h1.ne2 (by decide) h2
    have n5 := h5.ne2 (by decide) h2
    have hszW := h1.lt
    have hml : m ≤ 1000 := by omega
    have fin : ∀ (g2 c2 : Nat) (w2 : World), Ow2 w2 B (some ⟨g2, 0, none⟩) (m + 1) c2 (pre ++ [(xa, xb)]) → W.grownBy w2 (A.map (·.block)) → (A.map (·.block) = some g2 ∨ W.heap.size ≤ g2) →
        Bk w2 (B + 1) 26 #[.slice A m c'] ∧
        (∀ W', W' = w2.setCell ⟨B + 1, 0, none⟩ (.slice (some ⟨g2, 0, none⟩) (m + 1) c2) → KeepsFrom w1.heap.size W W' ∧ Kp Bx (B + 1 + 1) w1.heap.size W W' ∧ RI R n c B w1.heap.size Bx w (pre ++ [(xa, xb)]) W') := by
      intro g2 c2 w2 ho2 hg2 hat2
      have q1 := h1.grown hg2 n1
      have q5 := h5.grown hg2 n5
      refine ⟨q1, ?_⟩
      rintro W' rfl
      have hko : KeepsOthers W w2 := KeepsOthers.of_grownBy hg2 (fun j o e ho => by
        obtain ⟨_, _, _, cur, fr, hh⟩ := own2_lt h2 j e
        rw [hh] at ho; injection ho with ho; subst ho; rfl)
      have hA : ∀ k, A.map (·.block) = some k → B ≤ k := fun k e => (own2_lt h2 k e).1
      have hb2 : Below B W w2 := (Below.refl _ _).grown hg2 (by omega) hA
      have hg2b : g2 = B ∨ w1.heap.size ≤ g2 := by
        rcases hat2 with e | e
        · exact h4 g2 e
        · right; omega
      have m1 := q1.ne2 (by decide) ho2
      have m1' : B + 1 ≠ g2 := fun e => m1 (by rw [e]; rfl)
      have hsz2 := hg2.size
      refine ⟨(hko.trans (KeepsOthers.setCell _ _ _)).from _, ⟨?_, fun k hk1 hk2 => ?_⟩, ⟨some ⟨g2, 0, none⟩, m + 1, c2, q1.set_ 0 _, own2_keep ho2 (fun b e => ?_), by simp [h3], fun g e => ?_⟩, q5.far (by dsimp only; omega) _, (h6.trans hb2).setCell (by dsimp only; omega) _, by simp; omega⟩
      · exact (q5.far (by dsimp only; omega) _).trans h5.symm
      · rw [Below.heap_setCell _ _ _ _ (by dsimp only; omega)]
        refine hg2.block k (by omega) (fun e => ?_)
        rcases h4 k e.symm with e2 | e2 <;> omega
      · injection e with e; injection e with e; subst e
        exact Below.heap_setCell _ _ _ _ (by dsimp only; omega)
      · injection e with e; subst e; exact hg2b
    have FIN := Lib.hid fin; clear fin
    have HLN := Lib.hid hlen
    clear n1 n5 hlen h3 h4 h6 h7 h5 f1
    gi_wp2_with (gi_at_builtin; refine app2In rfl (.tmp 15) (.tmp 19) rfl W B _ _ _ pre (xa, xb) (by rfl) (by rfl) h2 (by omega) (by omega) ?_; intro g2 cc2 w2 ho2 hg2 hat2; obtain ⟨q1, FF⟩ := FIN.out g2 cc2 w2 ho2 hg2 hat2; have FF2 := Lib.hid FF; clear FF; have qc := q1.cell 0; have qf := q1.frozen 0; simp only [List.getElem?_toArray, List.getElem?_cons_zero] at qc)
    exact FF2.out _ rfl
  case done =>
    rintro D ys W hD rfl ⟨⟨A, m, c', h1, h2, h3, h4⟩, h5, h6, h7⟩ hK
    have hmn : m ≤ n0 := by omega
    clear h3
    have c1 := h1.cell 0
    simp only [List.getElem?_toArray, List.getElem?_cons_zero] at c1
    gi_wp2
    refine ⟨by simp, .inl ⟨_, _, rfl, run_takeDeferred hK, ?_⟩⟩
    have hgp := grownBy_putObj' W D (.deferred none)
    have hrr : ∀ r, some D = some r → w1.heap.size ≤ r ∧ ∃ o : Obj, W.heap[r]? = some o ∧ o.isCells = false := fun r e => by cases e; exact ⟨hD, _, hK, rfl⟩
    refine ⟨_, results_tmp rfl _ _ _, A, m, c', rfl, hmn, ?_, ?_⟩
    · rw [← HB.out]; exact own2_own h2 hgp hrr
    · rw [← HB.out]; exact h6.grown hgp (by have := h1.lt; omega) (fun k e => by have := (hrr k e).1; omega)

end Go.Proofs.Ytladdpfngoldcaa
