/- Walks: Ranges, ranges. -/
import Derived.Test.YtladdpfngoldcaaW6
namespace Go.Proofs.Ytladdpfngoldcaa
open Go.RowKit Go.Shelf
attribute [local go_sem] Oper.semAt_some

/-- A block that is known whole. -/
def Bk (w : World) (g : Nat) (t : TypeId) (cs : Array Value) : Prop := w.heap[g]? = some (.cells cs t (0, 0))
section
variable {w w' : World} {g : Nat} {t : TypeId} {cs : Array Value}
theorem Bk.lt (h : Bk w g t cs) : g < w.heap.size := (Array.getElem?_eq_some_iff.1 h).1
theorem Bk.cell (h : Bk w g t cs) (i : Nat) : w.cell? ⟨g, i, none⟩ = cs[i]? := by simp [World.cell?, show w.heap[g]? = _ from h]
theorem Bk.frozen (h : Bk w g t cs) (i : Nat) : w.frozen? ⟨g, i, none⟩ = false := by simp [World.frozen?, show w.heap[g]? = _ from h]
theorem Bk.new (w : World) (t : TypeId) (cs : Array Value) : Bk (w.alloc (.cells cs t)) w.heap.size t cs := World.alloc_heap_new w _
theorem Bk.alloc (h : Bk w g t cs) (o : Obj) : Bk (w.alloc o) g t cs := (Below.heap_alloc w o g h.lt).trans h
theorem Bk.set_ (h : Bk w g t cs) (i : Nat) (u : Value) : Bk (w.setCell ⟨g, i, none⟩ u) g t (cs.setIfInBounds i u) := by
  unfold Bk at h ⊢
  simp [World.setCell, Array.getElem?_modify, h]
theorem Bk.far (h : Bk w g t cs) {p : Addr} (hp : g ≠ p.block) (u : Value) : Bk (w.setCell p u) g t cs := (Below.heap_setCell w p u g hp).trans h
theorem Bk.below {B : Nat} (h : Bk w g t cs) (hb : Below B w w') (hg : g < B) : Bk w' g t cs := (hb.block g hg).trans h
theorem Bk.grown {row : Option Nat} (h : Bk w g t cs) (hb : w.grownBy w' row) (hg : some g ≠ row) : Bk w' g t cs := (hb.block g h.lt hg).trans h
theorem Bk.ne_own (h : Bk w g t cs) (ht : t ≠ 3) {base n c : Nat} {A : Option Addr} {xs : List Int} (ho : Ow w base A n c xs) : ∀ b, A = some ⟨b, 0, none⟩ → g ≠ b := by
  intro b e
  subst e
  rintro rfl
  rcases ho.2 with ⟨e, _⟩ | ⟨g', cap, cur, e, _, hh, _⟩
  · cases e
  · injection e with e1; injection e1 with e2; injection e2 with e3; subst e3
    unfold Bk at h; rw [h] at hh; injection hh with hh; injection hh with _ h2; exact ht h2
/-- Whatever the loop's own book-keeping turns, a block of cells lies on. -/
theorem Bk.own_ (h : Bk w g t cs) {row : Option Nat} (hg : w.grownBy w' row) {B : Nat} (hr : ∀ r, row = some r → B ≤ r ∧ ∃ o : Obj, w.heap[r]? = some o ∧ o.isCells = false) : Bk w' g t cs :=
  h.grown hg (fun e => by
    obtain ⟨_, o, ho, hc⟩ := hr g e.symm
    rw [show w.heap[g]? = _ from h] at ho; injection ho with ho; subst ho; cases hc)
theorem Bk.ne_row (h : Bk w g t cs) {e : TypeId} (ht : t ≠ e) {base size n c : Nat} {A : Option Addr} {xs : List Value} (ho : w.ownsRow base e size (.slice A n c) n xs) : ∀ b, A = some ⟨b, 0, none⟩ → g ≠ b := by
  intro b e0
  subst e0
  rintro rfl
  rcases ho.2 with ⟨e, _⟩ | ⟨g', cap, cur, e, _, hh, _⟩
  · cases e
  · injection e with e1; injection e1 with e2; injection e2 with e3; subst e3
    unfold Bk at h; rw [h] at hh; injection hh with hh; injection hh with _ h2; exact ht h2
end
theorem Ow.own_ {w w' : World} {base n c : Nat} {A : Option Addr} {xs : List Int} (h : Ow w base A n c xs) {row : Option Nat} (hg : w.grownBy w' row) {B : Nat} (hr : ∀ r, row = some r → B ≤ r ∧ ∃ o : Obj, w.heap[r]? = some o ∧ o.isCells = false) : Ow w' base A n c xs := by
  refine h.keep fun b e => ?_
  have hlt := (h.lt b 0 none e).2
  refine hg.block b hlt (fun e2 => ?_)
  obtain ⟨_, o, ho, hc⟩ := hr b e2.symm
  rcases h.2 with ⟨e3, _⟩ | ⟨g', cap, cur, e3, _, hh, _⟩
  · subst e; cases e3
  · subst e; injection e3 with e4; injection e4 with e5; injection e5 with e6; subst e6
    rw [hh] at ho; injection ho with ho; subst ho; cases hc
theorem below_own {B0 B : Nat} {w0 w w' : World} (h : Below B0 w0 w) (hB : B0 ≤ B) (hBw : B ≤ w.heap.size) {row : Option Nat} (hg : w.grownBy w' row) (hr : ∀ r, row = some r → B ≤ r ∧ ∃ o : Obj, w.heap[r]? = some o ∧ o.isCells = false) : Below B0 w0 w' :=
  h.grown hg (by omega) (fun k e => by have := (hr k e).1; omega)


theorem ranges_c (A : Option Addr) (n c : Nat) (xs : List Int) (w : World) (hA : Rd w w.heap.size A n xs) (hn : n ≤ 1000000) :
    Calls Try.prog 19 #[.slice A n c] w fun e w' => ∃ Bx A' m c', e = .returned (.func (.func 40) #[] #[.pointer (some ⟨Bx, 0, none⟩)]) ∧ w.heap.size ≤ Bx ∧ m ≤ n ∧ Bk w' Bx 22 #[.slice A' m c'] ∧ Ow w' w.heap.size A' m c' (ofL xs) ∧ Below w.heap.size w w' := by
  go_enter Try.func19, Try.ntmps19
  go_wp2_with fail
  refine (of_c _ _ _ _ _ hA hn).mono ?_
  rintro e w1 ⟨A1, m, c1, rfl, hm, ho1, hb1⟩
  have bs := hb1.size
  go_wp2
  go_ret
  exact ⟨_, _, _, _, rfl, bs, hm, Bk.new _ _ _, ho1.alloc _, hb1.alloc bs _⟩

/-- The cells of a row of pairs. -/
def prs (l : List (Int × Int)) : List Value := l.flatMap fun p => [.int .i64 p.1, .int .i64 p.2]
theorem prs_snoc (l : List (Int × Int)) (p : Int × Int) : prs (l ++ [p]) = prs l ++ [.int .i64 p.1, .int .i64 p.2] := by simp [prs]
theorem prs_length (l : List (Int × Int)) : (prs l).length = l.length * 2 := by
  induction l with
  | nil => rfl
  | cons p t ih => simp [prs] at ih ⊢; omega
def Ow2 (w : World) (base : Nat) (A : Option Addr) (n c : Nat) (l : List (Int × Int)) : Prop := w.ownsRow base 30 2 (.slice A n c) n (prs l)

theorem info30 : (Try.prog.info? 30).map (fun i => (i.zero, i.size, i.bytes)) = some (some (.agg #[.int .i64 0, .int .i64 0]), 2, 16) := by kernel_rfl
theorem cells_two_new (w : World) (u v : Value) (t : TypeId) : ∀ j x, [u, v][j]? = some x → (w.alloc (.cells #[u, v] t)).cell? ((⟨w.heap.size, 0, none⟩ : Addr).add j) = some x := fun j x h =>
  World.news_of_block (heap_alloc_new w _) j x h

theorem app2In {F : Fence} {d : Nat} {ops : Array Oper} {rest : List Oper} {o : Oper} {a : Act} {Q : Exit → Act → World → Prop} (hgd : o.guard = none) (s x : Operand)
    (ho : o.op = .call { callee := .builtin .append, args := #[s, x], argTypes := #[26, 26] })
    (w : World) (base : Nat) (A : Option Addr) (n c : Nat) (xs : List (Int × Int)) (p : Int × Int)
    (hs : a.eval s = .slice A n c) (hx : a.eval x = .slice (some ⟨w.heap.size, 0, none⟩) 1 1) (hown : Ow2 w base A n c xs) (hlen : n ≤ 1000000) (hbase : base ≤ w.heap.size)
    (h : ∀ g c' w', Ow2 w' base (some ⟨g, 0, none⟩) (n + 1) c' (xs ++ [p]) → w.grownBy w' (A.map (·.block)) → (A.map (·.block) = some g ∨ w.heap.size ≤ g) → wpListIn F d Try.prog ops Q rest (a.put o.dst (.slice (some ⟨g, 0, none⟩) (n + 1) c')) w') :
    wpListIn F d Try.prog ops Q (o :: rest) a (w.alloc (.cells #[.int .i64 p.1, .int .i64 p.2] 30)) := by
  obtain ⟨i0, hi, hz0, hz1, hz2⟩ := info_parts info30
  obtain ⟨g, cap, w1, hrun, ho1, hg1, hat, hlt⟩ := run_append_lies (P := Try.prog) (w.alloc (.cells #[.int .i64 p.1, .int .i64 p.2] 30)) 26 o.type base 30 i0 (.agg #[.int .i64 0, .int .i64 0]) 2 16 Try.underlying26 hi hz0 hz1 hz2 rfl (by decide) (.slice A n c) n (prs xs) (World.ownsRow.alloc hown _)
    ⟨w.heap.size, 0, none⟩ 1 1 [.int .i64 p.1, .int .i64 p.2] rfl (cells_two_new _ _ _ _) (by intro u hu; simp at hu; rcases hu with rfl | rfl <;> rfl) (by omega) (by unfold maxLen; omega) (by omega) (by simp; omega) (w.heap.size + 1) (by simp)
  rw [ownBlock_slice] at hg1 hat
  have hgr : w.grownBy w1 (A.map (·.block)) := (World.grownBy_alloc w _ _).trans hg1
  have ho2 : Ow2 w1 base (some ⟨g, 0, none⟩) (n + 1) cap (xs ++ [p]) := by unfold Ow2; rw [prs_snoc]; exact ho1
  refine wpListIn_plain hgd fun K hK' => ?_
  unfold Oper.wpIn
  refine ⟨?_, ?_⟩
  · simp [Oper.about, ho, resolve, Target.leads, Sem.run_pure]
  · rw [Oper.semAt_plain F _ _ (by rw [ho]; intro c hc'; cases hc')]
    simp [execOp, ho, resolve, invoke, builtin, hs, hx, hrun, Result.andThen]
    refine hK' _ _ (h g cap w1 ho2 hgr ?_)
    rcases hat with hat | hat
    · exact .inl hat
    · exact .inr (by omega)

end Go.Proofs.Ytladdpfngoldcaa
