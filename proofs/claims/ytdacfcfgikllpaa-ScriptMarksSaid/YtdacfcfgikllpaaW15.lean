/- Walks: Order. -/
import Derived.Test.YtdacfcfgikllpaaW14
namespace Go.Proofs.Ytdacfcfgikllpaa
open Go.RowKit Go.Shelf
attribute [local go_sem] Oper.semAt_some

theorem mkI0In {F : Fence} {d : Nat} {ops : Array Oper} {rest : List Oper} {o : Oper} {a : Act} {Q : Exit → Act → World → Prop} (hg : o.guard = none) (l c : Operand) (hop : o.op = Op.makeSlice 25 l c)
    (w : World) (base n : Nat) (C : Int) (hl : a.eval l = .int .i64 0) (hc : a.eval c = .int .i64 C) (hC : C = (n : Int)) (hn : n ≤ 1000000) (hb : base ≤ w.heap.size)
    (hK : ∀ w', Ow w' base (some ⟨w.heap.size, 0, none⟩) 0 n [] → w.grownBy w' none → w'.heap.size = w.heap.size + 1 → wpListIn F d Try.prog ops Q rest (a.put o.dst (.slice (some ⟨w.heap.size, 0, none⟩) 0 n)) w') :
    wpListIn F d Try.prog ops Q (o :: rest) a w := by
  obtain ⟨i0, hi, hz0, hz1, hz2⟩ := info_parts Try.info3
  have h63 : (n : Int) ≤ 9223372036854775807 := by omega
  have hb' : (i0.bytes : Int) * (n : Int) ≤ 281474976710656 := by rw [hz2]; omega
  have hr := run_make (P := Try.prog) w 25 3 i0 (.int .i64 0) Try.underlying25 hi hz0 .i64 .i64 0 n (by omega) (by omega) hb' h63
  simp only [Int.toNat_natCast, Int.toNat_zero] at hr
  subst hC
  refine wpListIn_plain hg fun K hK' => ?_
  unfold Oper.wpIn
  refine ⟨?_, ?_⟩
  · simp [Oper.about, hop]
  · rw [Oper.semAt_plain F _ _ (by rw [hop]; intro c hc'; cases hc')]
    simp [execOp, hop, hl, hc, hr, Result.andThen]
    refine hK' _ _ (hK _ ?_ (World.grownBy_alloc w _ _) (by simp))
    have h2 := World.ownsRow_made (size := 1) (e := 3) (base := base) w (madeCells (Value.int .i64 0).cells (n * i0.size)) n hb (by unfold maxLen; omega) (by rw [hz1, size_madeCells])
    exact h2

/-- The state of Order's loop when the groups 'pre' have come. -/
def ost (xs : List Int) {n : Nat} (pre : List (Grp n)) : List Nat × (Nat × Nat) := (pre.map (·.1)).foldl (ordStep xs) ([], (0, 0))
theorem ost_snoc (xs : List Int) {n : Nat} (pre : List (Grp n)) (x : Grp n) : ost xs (pre ++ [x]) = ordStep xs (ost xs pre) x.1 := by simp [ost]
theorem ordStep_bd (xs : List Int) (n : Nat) (st : List Nat × (Nat × Nat)) (g : Nat × Nat) (h : st.2.1 ≤ st.2.2 ∧ st.2.2 ≤ n) (hg : g.1 < g.2 ∧ g.2 ≤ n) :
    (ordStep xs st g).2.1 ≤ (ordStep xs st g).2.2 ∧ (ordStep xs st g).2.2 ≤ n ∧ (ordStep xs st g).1.length ≤ st.1.length + 2 * n := by
  have h1 := shownL_length xs st.2.1 st.2.2
  have h2 := shownL_length xs g.1 g.2
  unfold ordStep
  by_cases c1 : kind (xs.getD g.1 0) = 4
  · simp only [c1, if_true]
    simp; omega
  · by_cases c2 : kind (xs.getD g.1 0) = 5
    · simp only [c2]
      simp; omega
    · simp only [ne_eq, c2, not_false_eq_true, if_true, c1, if_false]
      simp; omega
theorem ost_bd (xs : List Int) {n : Nat} (pre : List (Grp n)) : (ost xs pre).2.1 ≤ (ost xs pre).2.2 ∧ (ost xs pre).2.2 ≤ n ∧ (ost xs pre).1.length ≤ 2 * n * pre.length := by
  suffices h : ∀ k, ∀ l : List (Grp n), l.length = k → (ost xs l).2.1 ≤ (ost xs l).2.2 ∧ (ost xs l).2.2 ≤ n ∧ (ost xs l).1.length ≤ 2 * n * l.length from h _ pre rfl
  intro k
  induction k with
  | zero => intro l hl; have := List.eq_nil_of_length_eq_zero hl; subst this; simp [ost]
  | succ k ih =>
    intro l hl
    have hne : l ≠ [] := by intro e; subst e; simp at hl
    have e := List.dropLast_concat_getLast hne
    have h1 := ih l.dropLast (by simp [hl])
    have h2 := ordStep_bd xs n (ost xs l.dropLast) (l.getLast hne).1 ⟨h1.1, h1.2.1⟩ (l.getLast hne).2
    rw [← ost_snoc, e] at h2
    have h3 : 2 * n * l.length = 2 * n * l.dropLast.length + 2 * n := by
      have : l.length = l.dropLast.length + 1 := by simp; omega
      rw [this, Nat.mul_add, Nat.mul_one]
    refine ⟨h2.1, h2.2.1, ?_⟩
    omega

structure OS (xs : List Int) (R : Option Addr) (n c B : Nat) (w : World) (W : World) (g m c' : Nat) (zs : List Nat) (s1 s2 : Nat) : Prop where
  k2 : Bk W (B + 1 + 1) 25 #[.slice (some ⟨g, 0, none⟩) m c']
  ow : Ow W B (some ⟨g, 0, none⟩) m c' (ints zs)
  k0 : Bk W B 25 #[.slice R n c]
  k3 : Bk W (B + 1 + 1 + 1) 39 #[.int .i64 ((s1 : Nat) : Int), .int .i64 ((s2 : Nat) : Int)]
  k4 : Bk W (B + 1 + 1 + 1 + 1) 25 #[.slice R n c]
  be : Below B w W
  rd : Rd W B R n xs

/-- What a round of Order's loop keeps. -/
def KO (B : Nat) (W W' : World) : Prop := KeepsOthers W W' ∧ Kp (B + 1 + 1 + 1 + 1) B W W'
theorem KO.refl (B : Nat) (W : World) : KO B W W := ⟨KeepsOthers.refl _, Kp.refl _ _ _⟩
theorem KO.trans {B : Nat} {X Y Z : World} (h : KO B X Y) (k : KO B Y Z) : KO B X Z := ⟨h.1.trans k.1, h.2.trans k.2⟩
theorem Bk.unique {w : World} {g : Nat} {t t' : TypeId} {cs cs' : Array Value} (h : Bk w g t cs) (h' : Bk w g t' cs') : t = t' := by
  unfold Bk at h h'; rw [h] at h'; injection h' with h'; injection h'

section
variable {xs : List Int} {R : Option Addr} {n c B : Nat} {w W w2 : World} {g m c' : Nat} {zs : List Nat} {s1 s2 : Nat}
theorem OS.gne (h : OS xs R n c B w W g m c' zs s1 s2) : g ≠ B ∧ g ≠ B + 1 + 1 ∧ g ≠ B + 1 + 1 + 1 ∧ g ≠ B + 1 + 1 + 1 + 1 ∧ B ≤ g ∧ g < W.heap.size := by
  have a0 := h.k0.ne_own (by decide) h.ow g rfl
  have a2 := h.k2.ne_own (by decide) h.ow g rfl
  have a3 := h.k3.ne_own (by decide) h.ow g rfl
  have a4 := h.k4.ne_own (by decide) h.ow g rfl
  have a5 := h.ow.lt g 0 none rfl
  exact ⟨a0.symm, a2.symm, a3.symm, a4.symm, a5.1, a5.2⟩
theorem OS.shown (h : OS xs R n c B w W g m c' zs s1 s2) (hg : W.grownBy w2 (some g)) {g2 m2 c2 : Nat} {zs2 : List Nat} (ho : Ow w2 B (some ⟨g2, 0, none⟩) m2 c2 (ints zs2)) :
    (OS xs R n c B w (w2.setCell ⟨B + 1 + 1, 0, none⟩ (.slice (some ⟨g2, 0, none⟩) m2 c2)) g2 m2 c2 zs2 s1 s2 ∧ KO B W (w2.setCell ⟨B + 1 + 1, 0, none⟩ (.slice (some ⟨g2, 0, none⟩) m2 c2))) ∧
    w2.cell? ⟨B + 1 + 1, 0, none⟩ = some (.slice (some ⟨g, 0, none⟩) m c') ∧ w2.frozen? ⟨B + 1 + 1, 0, none⟩ = false := by
  obtain ⟨e0, e2, e3, e4, e5, e6⟩ := h.gne
  have q0 := h.k0.grown hg (by simp; omega)
  have q2 := h.k2.grown hg (by simp; omega)
  have q3 := h.k3.grown hg (by simp; omega)
  have q4 := h.k4.grown hg (by simp; omega)
  have m2' := q2.ne_own (by decide) ho g2 rfl
  have hb2 : Below B W w2 := (Below.refl _ _).grown hg (by omega) (fun k e => by cases e; exact e5)
  have hbw := (h.be.trans hb2).setCell (p := ⟨B + 1 + 1, 0, none⟩) (by dsimp only; omega) (.slice (some ⟨g2, 0, none⟩) m2 c2)
  refine ⟨⟨⟨q2.set_ 0 _, ho.setOther (fun b e => by cases e; dsimp only; omega) _, q0.far (by dsimp only; omega) _, q3.far (by dsimp only; omega) _, q4.far (by dsimp only; omega) _, hbw, ?_⟩, ?_, ?_, ?_⟩, ?_, q2.frozen 0⟩
  · exact (h.rd.below hb2).setCell (by dsimp only; omega) _
  · refine (KeepsOthers.of_grownBy hg (fun j o e hj => ?_)).trans (KeepsOthers.setCell _ _ _)
    cases e
    rcases h.ow.2 with ⟨e9, _⟩ | ⟨g', cap, cur, e9, _, hh, _⟩
    · cases e9
    · injection e9 with e10; injection e10 with e11; injection e11 with e12; subst e12
      rw [hh] at hj; injection hj with hj; subst hj; rfl
  · exact ((q4.far (by dsimp only; omega) _).trans h.k4.symm)
  · intro k hk; rw [Below.heap_setCell _ _ _ _ (by dsimp only; omega)]; exact hb2.block k hk
  · exact q2.cell 0
theorem OS.mid (h : OS xs R n c B w W g m c' zs s1 s2) (hg : W.grownBy w2 (some g)) :
    w2.cell? ⟨B, 0, none⟩ = some (.slice R n c) ∧ w2.cell? ⟨B + 1 + 1 + 1, 0, none⟩ = some (.int .i64 (s1 : Nat)) ∧ w2.cell? ⟨B + 1 + 1 + 1, 1, none⟩ = some (.int .i64 (s2 : Nat)) ∧ w2.frozen? ⟨B + 1 + 1 + 1, 0, none⟩ = false ∧ w2.frozen? ⟨B + 1 + 1 + 1, 1, none⟩ = false := by
  obtain ⟨e0, e2, e3, e4, e5, e6⟩ := h.gne
  have q0 := h.k0.grown hg (by simp; omega)
  have q3 := h.k3.grown hg (by simp; omega)
  exact ⟨q0.cell 0, q3.cell 0, q3.cell 1, q3.frozen 0, q3.frozen 1⟩
theorem OS.cells (h : OS xs R n c B w W g m c' zs s1 s2) :
    W.cell? ⟨B, 0, none⟩ = some (.slice R n c) ∧ W.cell? ⟨B + 1 + 1, 0, none⟩ = some (.slice (some ⟨g, 0, none⟩) m c') ∧ W.frozen? ⟨B + 1 + 1, 0, none⟩ = false ∧ W.cell? ⟨B + 1 + 1 + 1, 0, none⟩ = some (.int .i64 (s1 : Nat)) ∧ W.cell? ⟨B + 1 + 1 + 1, 1, none⟩ = some (.int .i64 (s2 : Nat)) ∧ W.frozen? ⟨B + 1 + 1 + 1, 0, none⟩ = false ∧ W.frozen? ⟨B + 1 + 1 + 1, 1, none⟩ = false :=
  ⟨h.k0.cell 0, h.k2.cell 0, h.k2.frozen 0, h.k3.cell 0, h.k3.cell 1, h.k3.frozen 0, h.k3.frozen 1⟩
theorem OS.syl (h : OS xs R n c B w W g m c' zs s1 s2) (t1 t2 : Nat) :
    OS xs R n c B w ((W.setCell ⟨B + 1 + 1 + 1, 0, none⟩ (.int .i64 (t1 : Nat))).setCell ⟨B + 1 + 1 + 1, 1, none⟩ (.int .i64 (t2 : Nat))) g m c' zs t1 t2 ∧ KO B W ((W.setCell ⟨B + 1 + 1 + 1, 0, none⟩ (.int .i64 (t1 : Nat))).setCell ⟨B + 1 + 1 + 1, 1, none⟩ (.int .i64 (t2 : Nat))) := by
  obtain ⟨e0, e2, e3, e4, e5, e6⟩ := h.gne
  refine ⟨⟨?_, ?_, ?_, ?_, ?_, ?_, ?_⟩, ?_, ?_, ?_⟩
  · exact (h.k2.far (by dsimp only; omega) _).far (by dsimp only; omega) _
  · exact (h.ow.setOther (fun b e => by cases e; dsimp only; omega) _).setOther (fun b e => by cases e; dsimp only; omega) _
  · exact (h.k0.far (by dsimp only; omega) _).far (by dsimp only; omega) _
  · exact (h.k3.set_ 0 _).set_ 1 _
  · exact (h.k4.far (by dsimp only; omega) _).far (by dsimp only; omega) _
  · exact (h.be.setCell (by dsimp only; omega) _).setCell (by dsimp only; omega) _
  · exact (h.rd.setCell (by dsimp only; omega) _).setCell (by dsimp only; omega) _
  · exact (KeepsOthers.setCell _ _ _).trans (KeepsOthers.setCell _ _ _)
  · rw [Below.heap_setCell _ _ _ _ (by dsimp only; omega), Below.heap_setCell _ _ _ _ (by dsimp only; omega)]
  · intro k hk; rw [Below.heap_setCell _ _ _ _ (by dsimp only; omega), Below.heap_setCell _ _ _ _ (by dsimp only; omega)]
theorem OS.own_ (h : OS xs R n c B w W g m c' zs s1 s2) {row : Option Nat} (hg : W.grownBy w2 row) {K : Nat} (hK : B ≤ K) (hr : ∀ r, row = some r → K ≤ r ∧ ∃ o : Obj, W.heap[r]? = some o ∧ o.isCells = false) :
    OS xs R n c B w w2 g m c' zs s1 s2 := by
  have hbe : Below B W w2 := (Below.refl _ _).grown hg (by have := h.k0.lt; omega) (fun k e => by have := (hr k e).1; omega)
  exact ⟨h.k2.own_ hg hr, h.ow.own_ hg hr, h.k0.own_ hg hr, h.k3.own_ hg hr, h.k4.own_ hg hr, h.be.trans hbe, h.rd.below hbe⟩
theorem OS.alloc (h : OS xs R n c B w W g m c' zs s1 s2) (o : Obj) : OS xs R n c B w (W.alloc o) g m c' zs s1 s2 := by
  have hl := h.k0.lt
  exact ⟨h.k2.alloc _, h.ow.alloc _, h.k0.alloc _, h.k3.alloc _, h.k4.alloc _, h.be.alloc (by omega) _, h.rd.alloc (by omega) _⟩
end

def OI (xs : List Int) (R : Option Addr) (n c B : Nat) (w : World) (pre : List (Grp n)) (W : World) : Prop :=
  ∃ g m c', OS xs R n c B w W g m c' (ost xs pre).1 (ost xs pre).2.1 (ost xs pre).2.2

set_option maxRecDepth 100000 in
set_option maxHeartbeats 4000000 in
theorem order_c (R : Option Addr) (n c : Nat) (xs : List Int) (w : World) (hR : Rd w w.heap.size R n xs) (hn : n ≤ 40) :
    Calls Try.prog 22 #[.slice R n c] w fun e w' => ∃ A m c', e = .returned (.slice A m c') ∧ m ≤ 10000 ∧ Ow w' w.heap.size A m c' (ints (orderL xs)) ∧ Below w.heap.size w w' := by
  refine (callsIn_wide (n := 5)).1 ?_
  have HL := Lib.hid hR.len
  have hFw : ∀ k, Fence.wide.fn k := fun _ => trivial
  have KK := fun (d : Nat) (q : Int) (w0 : World) => (callsIn_wide (n := d)).2 (kind_c q w0)
  have KC := Lib.hid KK; clear KK
  have GG := fun (w0 : World) => (callsIn_wide (n := 4)).2 (groups_c R n c w0)
  have GC := Lib.hid GG; clear GG
  refine callsIn_of_wp_marks Try.func22 rfl trivial ?_ rfl
  simp only [Try.ntmps22, List.size_toArray, List.length_cons, List.length_nil, Nat.reduceAdd, Nat.reduceSub, Array.replicate_succ, Array.replicate_zero, List.push_toArray, List.append_toArray, List.nil_append, List.cons_append]
  gi_wp2_with (first | (gi_at_make; refine mkI0In rfl _ _ rfl _ w.heap.size n _ (by rfl) (by rfl) rfl (by omega) (by simp) ?_; intro w1 ho1 hg1 hz1; have v1 : w1.cell? ⟨w.heap.size, 0, none⟩ = some (.slice R n c) := hg1.cell (by simp) (by simp); simp only [World.size_alloc] at hz1 ho1) | (gi_at_call 26; refine (GC.out _).mono ?_; rintro e w' ⟨rfl, rfl⟩))
  obtain ⟨B, hB⟩ : ∃ B, B = w.heap.size := ⟨_, rfl⟩
  have hbw : Below B w w1 := by rw [hB]; exact ((Below.refl _ _).alloc (Nat.le_refl _) _).grown hg1 (by simp) (fun k e => by cases e)
  have kr : Bk w1 B 25 #[.slice R n c] := by rw [hB]; exact (Bk.new _ _ _).grown hg1 (by simp)
  rw [← hB] at hR hz1 ho1 ⊢
  obtain ⟨W0, hW0⟩ : ∃ W0, (((w1.alloc (Obj.cells #[Value.slice (some { block := B + 1, off := 0 }) 0 n] 25)).alloc (Obj.cells #[Value.int IntKind.i64 0, Value.int IntKind.i64 0] 39)).alloc (Obj.cells #[Value.slice R n c] 25)) = W0 := ⟨_, rfl⟩
  have s0 : OS xs R n c B w W0 (B + 1) 0 n [] 0 0 := by
    rw [← hW0]
    have h2 := Bk.new w1 25 #[.slice (some ⟨B + 1, 0, none⟩) 0 n]
    rw [hz1] at h2
    have h3 := Bk.new (w1.alloc (Obj.cells #[Value.slice (some { block := B + 1, off := 0 }) 0 n] 25)) 39 #[.int .i64 0, .int .i64 0]
    rw [World.size_alloc, hz1] at h3
    have h4 := Bk.new ((w1.alloc (Obj.cells #[Value.slice (some { block := B + 1, off := 0 }) 0 n] 25)).alloc (Obj.cells #[Value.int IntKind.i64 0, Value.int IntKind.i64 0] 39)) 25 #[.slice R n c]
    rw [World.size_alloc, World.size_alloc, hz1] at h4
    exact ⟨(h2.alloc _).alloc _, ((ho1.alloc _).alloc _).alloc _, ((kr.alloc _).alloc _).alloc _, h3.alloc _, h4, ((hbw.alloc (by omega) _).alloc (by simp; omega) _).alloc (by simp; omega) _, ((hR.below hbw).alloc (by omega) _).alloc (by simp; omega) _ |>.alloc (by simp; omega) _⟩
  have hs0 : W0.heap.size = B + 5 := by rw [← hW0]; simp; omega
  rw [hW0]
  have HB := Lib.hid hB
  clear hW0 hB hg1 ho1 hz1 kr hbw v1
  refine wpIn_rangeFunc_ownH rfl (by omega) (gf := 30) (lb := #[.pointer (some ⟨B + 1 + 1 + 1 + 1, 0, none⟩)]) rfl trivial (enters_of Try.func30 (by kernel_rfl) rfl)
    (groups1_stops 4 R n c (B + 1 + 1 + 1 + 1) B xs W0 (by omega) (by omega) (s0.k4.cell 0) (by omega) s0.rd (by omega)) (fun h k => h.trans k)
    (fun W l o o' hl ho _ _ => ⟨World.putObj_heap_other (by omega), fun k hk => World.putObj_heap_other (by omega)⟩) (Below.refl _ _) (fun _ => rfl)
    (OI xs R n c B w) (fun _ _ _ => False) (fun pre X Y row h hg hr => by obtain ⟨g, m, c', h⟩ := h; exact ⟨g, m, c', h.own_ hg (by omega) hr⟩) (fun _ _ _ _ _ h _ _ => h)
    ⟨_, _, _, s0⟩
    (fun x a' W => ∃ Bg, B + 4 < Bg ∧ Bk W Bg 39 #[.int .i64 ((x.1.1 : Nat) : Int), .int .i64 ((x.1.2 : Nat) : Int)] ∧ a' = { tmps := #[Value.slice R n c, Value.pointer (some { block := B, off := 0 }), Value.slice none 0 0,
          Value.pointer (some { block := B + 1 + 1, off := 0 }), Value.pointer (some { block := B + 1 + 1 + 1, off := 0 }), Value.pointer (some ⟨Bg, 0, none⟩), undef, Value.slice R n c,
          Value.int IntKind.i64 ↑n, Value.slice (some { block := B + 1, off := 0 }) 0 n, Value.agg #[Value.int IntKind.i64 0, Value.int IntKind.i64 0], Value.slice R n c,
          Value.func (Fn.func 30) #[] #[Value.pointer (some { block := B + 1 + 1 + 1 + 1, off := 0 })], .agg #[.int .i64 ((x.1.1 : Nat) : Int), .int .i64 ((x.1.2 : Nat) : Int)],
          undef, undef, undef, undef, undef, undef, undef, undef, undef, undef, undef, undef, undef, undef, undef, undef, undef, undef, undef, undef, undef, undef, undef, undef], defers := [] }) ?hax ?assign ?body ?done ?stop
  case hax =>
    rintro x a' _ X Y row ⟨Bg, h1, h2, h3⟩ hg hr
    exact ⟨Bg, h1, h2.own_ hg hr, h3⟩
  case stop => rintro D c pre W _ _ h _; exact h.elim
  case assign =>
    rintro l pre x W K ⟨g, m, c', hs⟩ hK
    have hsz : B + 4 < W.heap.size := by have := hs.k4.lt; omega
    gi_wp2
    refine hK _ _ ((KeepsOthers.alloc _ _).from _) ⟨Below.heap_alloc _ _ _ (by omega), fun k hk => Below.heap_alloc _ _ _ (by omega)⟩ ?_ ⟨W.heap.size, hsz, Bk.new _ _ _, rfl⟩
    exact ⟨g, m, c', hs.alloc _⟩
  case body =>
    rintro l pre x a' W hl _ ⟨g, m, c', hs⟩ ⟨Bg, hBg, kg, rfl⟩ hlen
    have HC := Lib.hid (ost_snoc xs pre x)
    have hbd := ost_bd xs pre
    have hmm := hs.ow.len
    have hm4 : m ≤ 4000 := by
      simp [ints] at hmm
      have : 2 * n * pre.length ≤ 80 * 41 := Nat.mul_le_mul (by omega) (by omega)
      omega
    obtain ⟨⟨xa, xb⟩, hx1, hx2⟩ := x
    dsimp only at kg hx1 hx2 HC ⊢
    have hRr := hs.rd
    obtain ⟨rb, ro, rfl, hrb, hrc⟩ := hRr.pos (by omega)
    obtain ⟨q, hq⟩ := getD_some xs xa (by have := HL.out; omega)
    have cq := hrc xa q hq
    have hgq := getD_of hq
    have hst : ost xs (pre ++ [⟨(xa, xb), hx1, hx2⟩]) = (if kind q = 4 then ((if kind q ≠ 5 then ((ost xs pre).1 ++ shownL xs (ost xs pre).2.1 (ost xs pre).2.2, ((0 : Nat), (0 : Nat))) else ost xs pre).1, (xa, xb)) else
        ((if kind q ≠ 5 then ((ost xs pre).1 ++ shownL xs (ost xs pre).2.1 (ost xs pre).2.2, ((0 : Nat), (0 : Nat))) else ost xs pre).1 ++ shownL xs xa xb, (if kind q ≠ 5 then ((ost xs pre).1 ++ shownL xs (ost xs pre).2.1 (ost xs pre).2.2, ((0 : Nat), (0 : Nat))) else ost xs pre).2)) := by
      rw [HC.out]; unfold ordStep; dsimp only; rw [hgq]
    have HST := Lib.hid hst
    clear hst hgq hq hrc HC hmm
    have hb1 := kind_bd q
    have hxa0 : (0 : Int) ≤ (xa : Int) := by omega
    have hxan : (xa : Int) < (n : Int) := by omega
    obtain ⟨c0, c1, f1, c3, c4, f3, f4⟩ := hs.cells
    have g0 := kg.cell 0
    have g1 := kg.cell 1
    simp only [List.getElem?_toArray, List.getElem?_cons_zero, List.getElem?_cons_succ] at g0 g1
    have hgn := hs.gne
    have hBgg : Bg ≠ g := kg.ne_own (by decide) hs.ow g rfl
    have hB5 := hs.k0.lt
    have SC := fun (W1 : World) (g1 m1 cc1 : Nat) (zs1 : List Nat) (t1 t2 a1 a2 : Nat) (h1 : OS xs (some ⟨rb, ro, none⟩) n c B w W1 g1 m1 cc1 zs1 t1 t2) (hm1 : m1 ≤ 9000) (i1 : a1 ≤ a2) (i2 : a2 ≤ n) =>
      CallsIn.inRound l ((callsIn_wide (n := 5 - 1 - 1 - 1)).2 (shown_c (some ⟨rb, ro, none⟩) n c xs (ints zs1) g1 m1 cc1 a1 a2 B B W1 h1.rd (Nat.le_refl _) h1.ow (by have := h1.k0.lt; omega) (by omega) (by omega) i1 i2 (by omega)))
    have SCH := Lib.hid SC; clear SC
    by_cases h5 : kind q = 5
    · have hst2 : ost xs (pre ++ [⟨(xa, xb), hx1, hx2⟩]) = ((ost xs pre).1 ++ shownL xs xa xb, (ost xs pre).2) := by rw [HST.out, h5]; simp
      have HST2 := Lib.hid hst2; clear hst2
      gi_wp2_with (first | (gi_at_call 12; refine (CallsIn.inRound l (KC.out _ _ _)).mono ?_; rintro e w' ⟨rfl, rfl⟩) | (gi_at_call 28; refine (SCH.out W g m c' _ _ _ xa xb hs (by omega) (by omega) (by omega)).mono ?_; rintro e w2 ⟨g2, cc2, rfl, ho2, _, hg2⟩; obtain ⟨⟨hs2, ko2⟩, v1, v2⟩ := OS.shown hs hg2 (zs2 := (ost xs pre).1 ++ shownL xs xa xb) (by rw [ints_app]; exact ho2)))
      refine ⟨ko2.1.from _, ko2.2, ?_⟩
      unfold OI
      rw [HST2.out]
      exact ⟨_, _, _, hs2⟩
    · have t5 : (kind q != 5) = true := by rw [bne_iff_ne]; exact h5
      by_cases h4 : kind q = 4
      · have hst2 : ost xs (pre ++ [⟨(xa, xb), hx1, hx2⟩]) = ((ost xs pre).1 ++ shownL xs (ost xs pre).2.1 (ost xs pre).2.2, (xa, xb)) := by rw [HST.out, h4]; simp
        have HST2 := Lib.hid hst2; clear hst2
        gi_wp2_with (first | (gi_at_call 12; refine (CallsIn.inRound l (KC.out _ _ _)).mono ?_; rintro e w' ⟨rfl, rfl⟩) | (gi_at_call 28; (with_reducible refine (SCH.out W g m c' _ _ _ _ _ hs (by omega) hbd.1 hbd.2.1).mono ?_); rintro e w2 ⟨g2, cc2, rfl, ho2, _, hg2⟩; obtain ⟨⟨hs2, ko2⟩, v1, v2⟩ := OS.shown hs hg2 (zs2 := (ost xs pre).1 ++ shownL xs (ost xs pre).2.1 (ost xs pre).2.2) (by rw [ints_app]; exact ho2); obtain ⟨u0, u3, u4, u5, u6⟩ := OS.mid hs hg2; obtain ⟨hs3, ko3⟩ := OS.syl hs2 0 0; simp only [Int.natCast_zero] at hs3 ko3; have kg2 := kg.grown hg2 (by simp; omega); have g20 := kg2.cell 0; have g21 := kg2.cell 1; simp only [List.getElem?_toArray, List.getElem?_cons_zero, List.getElem?_cons_succ] at g20 g21))
        obtain ⟨hs4, ko4⟩ := OS.syl hs3 xa xb
        refine ⟨((ko2.trans ko3).trans ko4).1.from _, ((ko2.trans ko3).trans ko4).2, ?_⟩
        unfold OI
        rw [HST2.out]
        exact ⟨_, _, _, hs4⟩
      · have t4 : (kind q == 4) = false := by rw [beq_eq_false_iff_ne]; exact h4
        have hst2 : ost xs (pre ++ [⟨(xa, xb), hx1, hx2⟩]) = (((ost xs pre).1 ++ shownL xs (ost xs pre).2.1 (ost xs pre).2.2) ++ shownL xs xa xb, ((0 : Nat), (0 : Nat))) := by rw [HST.out, if_neg h4, if_pos h5]
        have HST2 := Lib.hid hst2; clear hst2
        gi_wp2_with (first | (gi_at_call 12; refine (CallsIn.inRound l (KC.out _ _ _)).mono ?_; rintro e w' ⟨rfl, rfl⟩) | (gi_at_call 28; (with_reducible refine (SCH.out W g m c' _ _ _ _ _ hs (by omega) hbd.1 hbd.2.1).mono ?_); rintro e w2 ⟨g2, cc2, rfl, ho2, _, hg2⟩; obtain ⟨⟨hs2, ko2⟩, v1, v2⟩ := OS.shown hs hg2 (zs2 := (ost xs pre).1 ++ shownL xs (ost xs pre).2.1 (ost xs pre).2.2) (by rw [ints_app]; exact ho2); obtain ⟨u0, u3, u4, u5, u6⟩ := OS.mid hs hg2; obtain ⟨hs3, ko3⟩ := OS.syl hs2 0 0; simp only [Int.natCast_zero] at hs3 ko3; have kg2 := kg.grown hg2 (by simp; omega); have g20 := kg2.cell 0; have g21 := kg2.cell 1; simp only [List.getElem?_toArray, List.getElem?_cons_zero, List.getElem?_cons_succ] at g20 g21) | (gi_at_call 28; (with_reducible refine (SCH.out _ g2 _ cc2 _ _ _ xa xb hs3 (by omega) (by omega) (by omega)).mono ?_); rintro e w4 ⟨g4, cc4, rfl, ho4, _, hg4⟩; obtain ⟨⟨hs5, ko5⟩, v3, v4⟩ := OS.shown hs3 hg4 (zs2 := ((ost xs pre).1 ++ shownL xs (ost xs pre).2.1 (ost xs pre).2.2) ++ shownL xs xa xb) (by rw [ints_app]; exact ho4)))
        refine ⟨((ko2.trans ko3).trans ko5).1.from _, ((ko2.trans ko3).trans ko5).2, ?_⟩
        unfold OI
        rw [HST2.out]
        exact ⟨_, _, _, hs5⟩
  case done =>
    rintro D ys W hD hS ⟨g, m, c', hs⟩ hK
    have hbd := ost_bd xs ys
    have hmm := hs.ow.len
    have hcl : (ost xs ys).1 ++ shownL xs (ost xs ys).2.1 (ost xs ys).2.2 = orderL xs := by unfold ost orderL; rw [hS]
    have hyl : ys.length ≤ 41 := by
      have e1 : ys.length = (groupsL xs).length := by rw [← hS]; simp
      have e2 := groupsFrom_len xs xs.length 0 0
      unfold groupsL at e1
      have := HL.out
      omega
    have hm4 : m ≤ 4000 := by
      simp [ints] at hmm
      have : 2 * n * ys.length ≤ 80 * 41 := Nat.mul_le_mul (by omega) hyl
      omega
    have HCL := Lib.hid hcl; clear hcl hS
    generalize (ost xs ys).1 = zs at *
    generalize (ost xs ys).2.1 = s1 at *
    generalize (ost xs ys).2.2 = s2 at *
    obtain ⟨c0, c1, f1, c3, c4, f3, f4⟩ := hs.cells
    have sc := (callsIn_wide (n := 4)).2 (shown_c R n c xs (ints zs) g m c' s1 s2 B B W hs.rd (Nat.le_refl _) hs.ow (by have := hs.k0.lt; omega) (by omega) (by omega) hbd.1 hbd.2.1 (by omega))
    have SC := Lib.hid sc; clear sc
    gi_wp2_with (gi_at_call 28; refine SC.out.mono ?_; rintro e w2 ⟨g2, cc2, rfl, ho2, _, hg2⟩)
    have hgD : D ≠ g := by
      rintro rfl
      rcases hs.ow.2 with ⟨e9, _⟩ | ⟨g', cap, cur, e9, _, hh, _⟩
      · cases e9
      · injection e9 with e10; injection e10 with e11; injection e11 with e12; subst e12; rw [hh] at hK; cases hK
    have hK2 : w2.heap[D]? = some (.deferred (some [])) := (hg2.block D (Array.getElem?_eq_some_iff.1 hK).1 (by simp; exact hgD)).trans hK
    refine ⟨by simp, .inl ⟨_, _, rfl, run_takeDeferred hK2, ?_⟩⟩
    have hgp := grownBy_putObj' w2 D (.deferred none)
    have hrr : ∀ r, some D = some r → W0.heap.size ≤ r ∧ ∃ o : Obj, w2.heap[r]? = some o ∧ o.isCells = false := fun r e => by cases e; exact ⟨hD, _, hK2, rfl⟩
    have e5 := hs.gne
    refine ⟨_, results_tmp rfl _ _ _, some ⟨g2, 0, none⟩, m + (s2 - s1), cc2, rfl, by omega, ?_, ?_⟩
    · rw [← HB.out, ← HCL.out, ints_app]; exact ho2.own_ hgp hrr
    · rw [← HB.out]
      have hb2 : Below B w w2 := hs.be.grown hg2 (by omega) (fun k e => by cases e; omega)
      exact hb2.grown hgp (by have := hb2.size; have := hg2.size; omega) (fun k e => by have := (hrr k e).1; omega)

end Go.Proofs.Ytdacfcfgikllpaa
