/- Walks: groups, Clusters. -/
import Derived.Test.YtdacfcfgikllpaaW12
namespace Go.Proofs.Ytdacfcfgikllpaa
open Go.RowKit Go.Shelf
attribute [local go_sem] Oper.semAt_some

set_option maxHeartbeats 400000 in
theorem groups_c (R : Option Addr) (n c : Nat) (w : World) :
    Calls Try.prog 26 #[.slice R n c] w fun e w' => e = .returned (.func (.func 30) #[] #[.pointer (some ⟨w.heap.size, 0, none⟩)]) ∧ w.alloc (.cells #[.slice R n c] 25) = w' := by
  go_enter Try.func26, Try.ntmps26
  go_wp2
  go_ret
  exact ⟨rfl, rfl⟩

/-- A block that is known whole. -/
def Bk (w : World) (g : Nat) (t : TypeId) (cs : Array Value) : Prop := w.heap[g]? = some (.cells cs t (0, 0))
section
variable {w w' : World} {g : Nat} {t : TypeId} {cs : Array Value}
theorem Bk.lt (h : Bk w g t cs) : g < w.heap.size := (Array.getElem?_eq_some_iff.1 h).1
theorem Bk.cell (h : Bk w g t cs) (i : Nat) : w.cell? ⟨g, i, none⟩ = cs[i]? := by simp [World.cell?, show w.heap[g]? = _ from h]
theorem Bk.frozen (h : Bk w g t cs) (i : Nat) : w.frozen? ⟨g, i, none⟩ = false := by simp [World.frozen?, show w.heap[g]? = _ from h]
theorem Bk.new (w : World) (t : TypeId) (cs : Array Value) : Bk (w.alloc (.cells cs t)) w.heap.size t cs := World.alloc_heap_new w _
theorem Bk.alloc (h : Bk w g t cs) (o : Obj) : Bk (w.alloc o) g t cs := (Below.heap_alloc w o g h.lt).trans h
theorem Bk.set_ (h : Bk w g t cs) (i : Nat) (u : Value) : Bk (w.setCell ⟨g, i, none⟩ u) g t (cs.setIfInBounds i u) := by
  unfold Bk at h ⊢
  simp [World.setCell, Array.getElem?_modify, h]
theorem Bk.far (h : Bk w g t cs) {p : Addr} (hp : g ≠ p.block) (u : Value) : Bk (w.setCell p u) g t cs := (Below.heap_setCell w p u g hp).trans h
theorem Bk.below {B : Nat} (h : Bk w g t cs) (hb : Below B w w') (hg : g < B) : Bk w' g t cs := (hb.block g hg).trans h
theorem Bk.grown {row : Option Nat} (h : Bk w g t cs) (hb : w.grownBy w' row) (hg : some g ≠ row) : Bk w' g t cs := (hb.block g h.lt hg).trans h
theorem Bk.ne_own (h : Bk w g t cs) (ht : t ≠ 3) {base n c : Nat} {A : Option Addr} {xs : List Int} (ho : Ow w base A n c xs) : ∀ b, A = some ⟨b, 0, none⟩ → g ≠ b := by
  intro b e
  subst e
  rintro rfl
  rcases ho.2 with ⟨e, _⟩ | ⟨g', cap, cur, e, _, hh, _⟩
  · cases e
  · injection e with e1; injection e1 with e2; injection e2 with e3; subst e3
    unfold Bk at h; rw [h] at hh; injection hh with hh; injection hh with _ h2; exact ht h2
/-- Whatever the loop's own book-keeping turns, a block of cells lies on. -/
theorem Bk.own_ (h : Bk w g t cs) {row : Option Nat} (hg : w.grownBy w' row) {B : Nat} (hr : ∀ r, row = some r → B ≤ r ∧ ∃ o : Obj, w.heap[r]? = some o ∧ o.isCells = false) : Bk w' g t cs :=
  h.grown hg (fun e => by
    obtain ⟨_, o, ho, hc⟩ := hr g e.symm
    rw [show w.heap[g]? = _ from h] at ho; injection ho with ho; subst ho; cases hc)
end
theorem Ow.own_ {w w' : World} {base n c : Nat} {A : Option Addr} {xs : List Int} (h : Ow w base A n c xs) {row : Option Nat} (hg : w.grownBy w' row) {B : Nat} (hr : ∀ r, row = some r → B ≤ r ∧ ∃ o : Obj, w.heap[r]? = some o ∧ o.isCells = false) : Ow w' base A n c xs := by
  refine h.keep fun b e => ?_
  have hlt := (h.lt b 0 none e).2
  refine hg.block b hlt (fun e2 => ?_)
  obtain ⟨_, o, ho, hc⟩ := hr b e2.symm
  rcases h.2 with ⟨e3, _⟩ | ⟨g', cap, cur, e3, _, hh, _⟩
  · subst e; cases e3
  · subst e; injection e3 with e4; injection e4 with e5; injection e5 with e6; subst e6
    rw [hh] at ho; injection ho with ho; subst ho; cases hc
theorem below_own {B0 B : Nat} {w0 w w' : World} (h : Below B0 w0 w) (hB : B0 ≤ B) (hBw : B ≤ w.heap.size) {row : Option Nat} (hg : w.grownBy w' row) (hr : ∀ r, row = some r → B ≤ r ∧ ∃ o : Obj, w.heap[r]? = some o ∧ o.isCells = false) : Below B0 w0 w' :=
  h.grown hg (by omega) (fun k e => by have := (hr k e).1; omega)

/-- 'append(out, x)' within a round. -/
theorem app1In {F : Fence} {d : Nat} {ops : Array Oper} {rest : List Oper} {o : Oper} {a : Act} {Q : Exit → Act → World → Prop} (hgd : o.guard = none) (s x : Operand)
    (ho : o.op = .call { callee := .builtin .append, args := #[s, x], argTypes := #[25, 25] })
    (w : World) (base : Nat) (A : Option Addr) (n c : Nat) (xs : List Int) (v : Int)
    (hs : a.eval s = .slice A n c) (hx : a.eval x = .slice (some ⟨w.heap.size, 0, none⟩) 1 1) (hown : Ow w base A n c xs) (hlen : n ≤ 1000000) (hbase : base ≤ w.heap.size)
    (h : ∀ g c' w', Ow w' base (some ⟨g, 0, none⟩) (n + 1) c' (xs ++ [v]) → w.grownBy w' (A.map (·.block)) → Below base w w' → (A.map (·.block) = some g ∨ w.heap.size ≤ g) → n + 1 ≤ c' → wpListIn F d Try.prog ops Q rest (a.put o.dst (.slice (some ⟨g, 0, none⟩) (n + 1) c')) w') :
    wpListIn F d Try.prog ops Q (o :: rest) a (w.alloc (.cells #[.int .i64 v] 3)) := by
  obtain ⟨i0, hi, hz0, hz1, hz2⟩ := info_parts Try.info3
  obtain ⟨g, cap, w1, hrun, ho1, hg1, hat, hlt⟩ := run_append_lies (P := Try.prog) (w.alloc (.cells #[.int .i64 v] 3)) 25 o.type base 3 i0 (.int .i64 0) 1 8 Try.underlying25 hi hz0 hz1 hz2 rfl (by decide) (.slice A n c) n (xs.map (Value.int .i64)) (World.ownsRow.alloc hown _)
    ⟨w.heap.size, 0, none⟩ 1 1 [.int .i64 v] rfl (cell_one_new _ _ _) (by intro u hu; simp at hu; subst hu; rfl) (by omega) (by unfold maxLen; omega) (by omega) (by simp; omega) (w.heap.size + 1) (by simp)
  rw [ownBlock_slice] at hg1 hat
  have hgr : w.grownBy w1 (A.map (·.block)) := (World.grownBy_alloc w _ _).trans hg1
  have ho2 : Ow w1 base (some ⟨g, 0, none⟩) (n + 1) cap (xs ++ [v]) := by unfold Ow; rw [List.map_append]; exact ho1
  refine wpListIn_plain hgd fun K hK' => ?_
  unfold Oper.wpIn
  refine ⟨?_, ?_⟩
  · simp [Oper.about, ho, resolve, Target.leads, Sem.run_pure]
  · rw [Oper.semAt_plain F _ _ (by rw [ho]; intro c hc'; cases hc')]
    simp [execOp, ho, resolve, invoke, builtin, hs, hx, hrun, Result.andThen]
    refine hK' _ _ (h g cap w1 ho2 hgr (own_below hown hgr hbase) ?_ ho2.cap)
    rcases hat with hat | hat
    · exact .inl hat
    · exact .inr (by omega)

end Go.Proofs.Ytdacfcfgikllpaa
