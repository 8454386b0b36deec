/- Words on rows that a call makes itself: what it owns, how that stays, and appends onto it, whatever the elements. -/
import Derived.Test.YtgcmedkaadagmaaDoorRd
import Derived.Shelf.Abstract
import Derived.RangeFuncNested
import Derived.OwnWalkIn
namespace Go.Proofs.YtgcmedkaadagmaaDoor
open Go.RowKit Go.Shelf

theorem cell_lt {w : World} {p : Addr} {v : Value} (h : w.cell? p = some v) : p.block < w.heap.size := by
  unfold World.cell? at h
  rcases Nat.lt_or_ge p.block w.heap.size with hlt | hge
  · exact hlt
  · rw [Array.getElem?_eq_none hge] at h; simp at h
theorem cell_alloc {w : World} {p : Addr} {v : Value} (h : w.cell? p = some v) (o : Obj) : (w.alloc o).cell? p = some v := (World.cell?_alloc_lt w o p (cell_lt h)).trans h
theorem grown_drewN (w : World) (d : Nat) : w.grownBy (w.drewN d) none := ⟨rfl, rfl, rfl, Nat.le_refl _, fun _ _ _ => rfl⟩
theorem Kept.drewN {S : Nat → Prop} {w w' : World} (h : Kept S w w') (d : Nat) : Kept S w (w'.drewN d) := h

/-- The slice is the call's own row (from block base on) of elements of type e, k cells each, and holds the cells cs. -/
def Ow (e k : Nat) (w : World) (base : Nat) (A : Option Addr) (n c : Nat) (cs : List Value) : Prop := w.ownsRow base e k (.slice A n c) n cs
/-- What is known of a slice's type t and its elements' type e. -/
structure ElT (t e k by' : Nat) (z : Value) : Prop where
  ht : Tryd.prog.underlying t = some (.slice e)
  hi : (Tryd.prog.info? e).map (fun i => (i.zero, i.size, i.bytes)) = some (some z, k, by')
  hz : z.cells.size = k
  hk : 0 < k
  hb : 0 < by'
theorem elt_int : ElT 23 3 1 8 (.int .i64 0) := ⟨Tryd.underlying23, by kernel_rfl, rfl, by decide, by decide⟩
theorem elt_row : ElT 35 23 1 24 (.slice none 0 0) := ⟨Tryd.underlying35, by kernel_rfl, rfl, by decide, by decide⟩
theorem elt_item : ElT 74 76 6 48 (.agg #[.int .i64 0, .int .i64 0, .int .i64 0, .int .i64 0, .int .i64 0, .int .i64 0]) := ⟨Tryd.underlying74, by kernel_rfl, rfl, by decide, by decide⟩
theorem elt_look : ElT 27 55 3 40 (.agg #[.int .i64 0, .bool false, .slice none 0 0]) := ⟨Tryd.underlying27, by kernel_rfl, rfl, by decide, by decide⟩
theorem elt_rule : ElT 22 58 6 128 (.agg #[.slice none 0 0, .slice none 0 0, .slice none 0 0, .slice none 0 0, .slice none 0 0, .int .i64 0]) := ⟨Tryd.underlying22, by kernel_rfl, rfl, by decide, by decide⟩

theorem elt_u64 : ElT 36 50 1 8 (.int .u64 0) := ⟨Tryd.underlying36, by kernel_rfl, rfl, by decide, by decide⟩
theorem elt_level : ElT 148 205 2 32 (.agg #[.slice none 0 0, .int .u64 0]) := ⟨Tryd.underlying148, by kernel_rfl, rfl, by decide, by decide⟩
theorem elt_places : ElT 141 143 2 16 (.agg #[.int .i64 0, .int .u64 0]) := ⟨Tryd.underlying141, by kernel_rfl, rfl, by decide, by decide⟩
theorem elt_sets3 : ElT 147 35 1 24 (.slice none 0 0) := ⟨Tryd.underlying147, by kernel_rfl, rfl, by decide, by decide⟩
theorem elt_step : ElT 159 164 4 32 (.agg #[.int .i64 0, .int .u64 0, .int .i64 0, .int .u64 0]) := ⟨Tryd.underlying159, by kernel_rfl, rfl, by decide, by decide⟩

section
variable {e k : Nat} {w w' : World} {base n c : Nat} {A : Option Addr} {cs : List Value}
theorem Ow.len (h : Ow e k w base A n c cs) : cs.length = n * k := h.1
theorem Ow.nil (w : World) (base e k : Nat) : Ow e k w base none 0 0 [] := World.ownsRow_nil w base e k
theorem Ow.lt (h : Ow e k w base A n c cs) : ∀ b o s, A = some ⟨b, o, s⟩ → base ≤ b ∧ b < w.heap.size := fun b o s e => by
  subst e; exact World.ownsRow.lt h b rfl
theorem Ow.at0 (h : Ow e k w base A n c cs) : A = none ∨ ∃ g, A = some ⟨g, 0, none⟩ := by
  rcases h.2 with ⟨e, _⟩ | ⟨g, _, _, e, _⟩
  · injection e with e; exact .inl e
  · injection e with e; exact .inr ⟨g, e⟩
theorem Ow.form (h : Ow e k w base A n c cs) (hn : 0 < n) : ∃ g, A = some ⟨g, 0, none⟩ ∧ base ≤ g ∧ g < w.heap.size := by
  obtain ⟨g, cap, hv, hb, hlt⟩ := World.ownsRow.form h hn
  have hA : A = some ⟨g, 0, none⟩ := by injection hv
  subst hA
  exact ⟨g, rfl, hb, hlt⟩
theorem Ow.cap (h : Ow e k w base A n c cs) : n ≤ c ∧ c ≤ 9223372036854775807 := by
  rcases h.2 with ⟨e, h0⟩ | ⟨_, cap, _, e, _, _, hle, hm, _⟩
  · injection e with _ e2 e3; omega
  · injection e with _ _ e3; unfold maxLen at hm; omega
theorem Ow.hd (h : Ow e k w base A n c cs) : Hd n c := h.cap
theorem Ow.alloc (h : Ow e k w base A n c cs) (o : Obj) : Ow e k (w.alloc o) base A n c cs := World.ownsRow.alloc h o
theorem Ow.drewN (h : Ow e k w base A n c cs) (d : Nat) : Ow e k (w.drewN d) base A n c cs := h
theorem Ow.lower (h : Ow e k w base A n c cs) {base' : Nat} (hb : base' ≤ base) : Ow e k w base' A n c cs := by
  refine ⟨h.1, ?_⟩
  rcases h.2 with h2 | ⟨g, cap, cur, e, hg, r⟩
  · exact .inl h2
  · exact .inr ⟨g, cap, cur, e, by omega, r⟩
theorem Ow.keep (h : Ow e k w base A n c cs) (hk : ∀ b, A = some ⟨b, 0, none⟩ → w'.heap[b]? = w.heap[b]?) : Ow e k w' base A n c cs := by
  refine ⟨h.1, ?_⟩
  rcases h.2 with h2 | ⟨g, cap, cur, e, hg, hh, r⟩
  · exact .inl h2
  · refine .inr ⟨g, cap, cur, e, hg, ?_, r⟩
    rw [hk g (by injection e)]; exact hh
theorem Ow.below (h : Ow e k w base A n c cs) {K : Nat} (hb : Below K w w') (hK : w.heap.size ≤ K) : Ow e k w' base A n c cs :=
  h.keep fun b e => hb.block b (by have := (h.lt b 0 none e).2; omega)
theorem Ow.call (h : Ow e k w base A n c cs) (hb : Below w.heap.size w w') : Ow e k w' base A n c cs := h.below hb (Nat.le_refl _)
theorem Ow.setOther (h : Ow e k w base A n c cs) {p : Addr} (hp : ∀ b, A = some ⟨b, 0, none⟩ → b ≠ p.block) (u : Value) : Ow e k (w.setCell p u) base A n c cs :=
  h.keep fun b e => Below.heap_setCell w p u b (hp b e)
theorem Ow.frozen {g : Nat} (h : Ow e k w base (some ⟨g, 0, none⟩) n c cs) (j : Nat) : w.frozen? ⟨g, j, none⟩ = false := World.ownsRow.frozenAt h j
theorem Ow.cell {g : Nat} (h : Ow e k w base (some ⟨g, 0, none⟩) n c cs) {j : Nat} {x : Value} (hj : cs[j]? = some x) : w.cell? ⟨g, j, none⟩ = some x := by
  have := World.ownsRow.cellAt h j (by have h1 := h.len; have h2 := (List.getElem?_eq_some_iff.1 hj).1; omega)
  rw [this, hj]
theorem Ow.stored {g : Nat} (h : Ow e k w base (some ⟨g, 0, none⟩) n c cs) (j : Nat) (x : Value) : Ow e k (w.setCell ⟨g, j, none⟩ x) base (some ⟨g, 0, none⟩) n c (cs.set j x) := (World.ownsRow.stored h j x).1
/-- The block of a row is one of cells of the elements' type. -/
theorem Ow.blk (h : Ow e k w base A n c cs) : ∀ b, A.map (·.block) = some b → base ≤ b ∧ b < w.heap.size ∧ A = some ⟨b, 0, none⟩ ∧ ∃ cur, w.heap[b]? = some (.cells cur e (0, 0)) := by
  intro b e1
  rcases h.2 with ⟨h1, _⟩ | ⟨g, cap, cur, e1', h1, h2, rest⟩
  · injection h1 with h1; subst h1; cases e1
  · injection e1' with e1'; subst e1'
    simp at e1; subst e1
    exact ⟨h1, (Array.getElem?_eq_some_iff.1 h2).1, rfl, cur, h2⟩
theorem Ow.grown (h : Ow e k w base A n c cs) {row : Option Nat} (hg : w.grownBy w' row) (hne : ∀ b, A = some ⟨b, 0, none⟩ → row ≠ some b) : Ow e k w' base A n c cs :=
  h.keep fun b e1 => hg.block b (h.lt b 0 none e1).2 (fun e2 => hne b e1 e2.symm)
theorem Ow.own_ (h : Ow e k w base A n c cs) {row : Option Nat} (hg : w.grownBy w' row) {B : Nat} (hr : ∀ r, row = some r → B ≤ r ∧ ∃ o : Obj, w.heap[r]? = some o ∧ o.isCells = false) : Ow e k w' base A n c cs := by
  refine h.keep fun b e1 => ?_
  obtain ⟨_, hlt, _, cur, hh⟩ := h.blk b (by rw [e1]; rfl)
  refine hg.block b hlt (fun e2 => ?_)
  obtain ⟨_, o, ho, hc⟩ := hr b e2.symm
  rw [hh] at ho; injection ho with ho; subst ho; cases hc
theorem Ow.kept {S : Nat → Prop} (h : Ow e k w base A n c cs) (hk : Kept S w w') (hS : ∀ b, A = some ⟨b, 0, none⟩ → S b) : Ow e k w' base A n c cs := h.keep fun b e1 => hk b (hS b e1)
end
theorem Bk.ne_own {w : World} {g : Nat} {t e k : Nat} {cs : Array Value} (h : Bk w g t cs) (ht : t ≠ e) {base n c : Nat} {A : Option Addr} {xs : List Value} (ho : Ow e k w base A n c xs) : some g ≠ A.map (·.block) := fun e1 => by
  obtain ⟨_, _, _, cur, hh⟩ := ho.blk g e1.symm
  unfold Bk at h; rw [h] at hh; injection hh with hh; injection hh with _ h2; exact ht h2
theorem Bk.own_ {w w' : World} {g : Nat} {t : Nat} {cs : Array Value} (h : Bk w g t cs) {row : Option Nat} (hg : w.grownBy w' row) {B : Nat} (hr : ∀ r, row = some r → B ≤ r ∧ ∃ o : Obj, w.heap[r]? = some o ∧ o.isCells = false) : Bk w' g t cs :=
  h.grown hg (fun e => by
    obtain ⟨_, o, ho, hc⟩ := hr g e.symm
    rw [show w.heap[g]? = _ from h] at ho; injection ho with ho; subst ho; cases hc)
theorem ownBlock_slice (A : Option Addr) (n c : Nat) : Value.ownBlock (.slice A n c) = A.map (·.block) := by cases A <;> rfl
theorem own_below {e k : Nat} {w w1 : World} {base n c : Nat} {A : Option Addr} {xs : List Value} (hown : Ow e k w base A n c xs) (hgr : w.grownBy w1 (A.map (·.block))) (hbase : base ≤ w.heap.size) : Below base w w1 :=
  (Below.refl _ _).grown hgr hbase (fun j hj => (hown.blk j hj).1)

/-- What an append does, whatever the elements. -/
theorem run_app {t e k by' : Nat} {z : Value} (hT : ElT t e k by' z) (ty : TypeId) (w : World) (base : Nat) (A : Option Addr) (n c : Nat) (cs : List Value) (hown : Ow e k w base A n c cs) (D : Option Addr) (m d : Nat) (news : List Value)
    (hl : news.length = m * k) (hnews : 0 < m → ∃ b o, D = some ⟨b, o, none⟩ ∧ ∀ j u, news[j]? = some u → w.cell? ⟨b, o + j, none⟩ = some u) (h1 : ∀ u ∈ news, u.oneCell' = true) (hlen : (n + m) * by' ≤ 140737488355328) (hbase : base ≤ w.heap.size) :
    ∃ A' c' w', (Builtin.append_ #[t, t] ty #[.slice A n c, .slice D m d]).run Tryd.prog w = .ok (.slice A' (n + m) c') w' ∧ Ow e k w' base A' (n + m) c' (cs ++ news) ∧ w.grownBy w' (A.map (·.block)) ∧ Below base w w' ∧
      (A'.map (·.block) = A.map (·.block) ∨ A'.map (·.block) = some w.heap.size) := by
  obtain ⟨i0, hi, hz0, hz1, hz2⟩ := info_parts hT.hi
  have hbb := hlen
  have h63 : n + m ≤ maxLen := by
    have := Nat.le_mul_of_pos_right (n + m) hT.hb
    unfold maxLen; omega
  have fin : ∀ (v' : Value) (w' : World), (Builtin.append_ #[t, t] ty #[.slice A n c, .slice D m d]).run Tryd.prog w = .ok v' w' → w'.ownsRow base e k v' (n + m) (cs ++ news) → w.grownBy w' (Value.slice A n c).ownBlock → (v'.ownBlock = (Value.slice A n c).ownBlock ∨ v'.ownBlock = some w.heap.size) →
      ∃ A' c' w', (Builtin.append_ #[t, t] ty #[.slice A n c, .slice D m d]).run Tryd.prog w = .ok (.slice A' (n + m) c') w' ∧ Ow e k w' base A' (n + m) c' (cs ++ news) ∧ w.grownBy w' (A.map (·.block)) ∧ Below base w w' ∧ (A'.map (·.block) = A.map (·.block) ∨ A'.map (·.block) = some w.heap.size) := by
    intro v' w' hr ho hg hat
    rw [ownBlock_slice] at hg hat
    have hv : ∃ A' c', v' = .slice A' (n + m) c' := by
      rcases ho.2 with ⟨rfl, h0⟩ | ⟨g, cap, cur, rfl, _⟩
      · exact ⟨none, 0, by rw [h0]⟩
      · exact ⟨_, _, rfl⟩
    obtain ⟨A', c', rfl⟩ := hv
    rw [ownBlock_slice] at hat
    exact ⟨A', c', w', hr, ho, hg, own_below hown hg hbase, hat⟩
  rcases D with _ | ad
  · have hm : m = 0 := by
      rcases Nat.eq_zero_or_pos m with h0 | h0
      · exact h0
      · obtain ⟨_, _, h, _⟩ := hnews h0
        cases h
    subst hm
    have hn : news = [] := List.eq_nil_of_length_eq_zero (by omega)
    subst hn
    refine fin (.slice A n c) w ?_ (by rw [List.append_nil]; exact hown) (World.grownBy.refl w _) (.inl rfl)
    rcases hown.2 with ⟨e1, e2⟩ | ⟨g, cap, cur, e1, _, _, hnc, _⟩
    · obtain ⟨e1, e3, e4⟩ := Value.slice.inj e1
      rw [e1, e3, e4]
      simp [Builtin.append_, run_underlying hT.ht, sizeOf, typeInfo, hi, Builtin.lenOf, Builtin.firstCells]
    · obtain ⟨e1, e3, e4⟩ := Value.slice.inj e1
      rw [e1, e4]
      simp [Builtin.append_, run_underlying hT.ht, sizeOf, typeInfo, hi, Builtin.lenOf, Builtin.firstCells, hnc, storeCells]
  · have hcells : ∀ j u, news[j]? = some u → w.cell? (ad.add j) = some u := by
      intro j u hu
      have hpos : 0 < m := by
        rcases Nat.eq_zero_or_pos m with h0 | h0
        · subst h0; have := (List.getElem?_eq_some_iff.1 hu).1; omega
        · exact h0
      obtain ⟨b, o, e1, hc⟩ := hnews hpos
      have e1 := Option.some.inj e1
      subst e1
      have := hc j u hu
      rw [← this]
      unfold Addr.add
      split
      · rename_i h0; subst h0; rfl
      · rfl
    obtain ⟨v', w', hrun, h2, h3, _, h5⟩ := run_append_own_at (P := Tryd.prog) w base t ty e i0 z k by' hT.ht hi hz0 hz1 hz2 hT.hz hT.hk (.slice A n c) n cs hown ad m d news hl hcells h1 h63 hbb hbase
    exact fin v' w' hrun h2 h3 h5

/-- An append in a plain region. -/
theorem appP {t e k by' : Nat} {z : Value} (hT : ElT t e k by' z) {ops : Array Oper} {rest : List Oper} {o : Oper} {a : Act} {Q : Exit → Act → World → Prop} (hgd : o.guard = none) (s x : Operand)
    (ho : o.op = .call { callee := .builtin .append, args := #[s, x], argTypes := #[t, t] })
    (w : World) (base : Nat) (A : Option Addr) (n c : Nat) (cs : List Value) (D : Option Addr) (m d : Nat) (news : List Value)
    (hs : a.eval s = .slice A n c) (hx : a.eval x = .slice D m d) (hown : Ow e k w base A n c cs)
    (hl : news.length = m * k) (hnews : 0 < m → ∃ b o, D = some ⟨b, o, none⟩ ∧ ∀ j u, news[j]? = some u → w.cell? ⟨b, o + j, none⟩ = some u) (h1 : ∀ u ∈ news, u.oneCell' = true) (hlen : (n + m) * by' ≤ 140737488355328) (hbase : base ≤ w.heap.size)
    (h : ∀ A' c' w', Ow e k w' base A' (n + m) c' (cs ++ news) → w.grownBy w' (A.map (·.block)) → Below base w w' → (A'.map (·.block) = A.map (·.block) ∨ A'.map (·.block) = some w.heap.size) → wpList Tryd.prog ops Q rest (a.put o.dst (.slice A' (n + m) c')) w') :
    wpList Tryd.prog ops Q (o :: rest) a w := by
  obtain ⟨A', c', w', hrun, h2, h3, h4, h5⟩ := run_app hT o.type w base A n c cs hown D m d news hl hnews h1 hlen hbase
  refine wpList_plain hgd fun K hK => ?_
  unfold Oper.wp execOp
  simp only [ho, resolve, invoke, builtin, Sem.run_bind, Sem.run_pure, Result.andThen_ok, List.map_toArray, List.map_cons, List.map_nil, hs, hx, hrun]
  exact hK _ _ (h A' c' w' h2 h3 h4 h5)
/-- .. inside a fence. -/
theorem appIn {t e k by' : Nat} {z : Value} (hT : ElT t e k by' z) {F : Fence} {fd : Nat} {ops : Array Oper} {rest : List Oper} {o : Oper} {a : Act} {Q : Exit → Act → World → Prop} (hgd : o.guard = none) (s x : Operand)
    (ho : o.op = .call { callee := .builtin .append, args := #[s, x], argTypes := #[t, t] })
    (w : World) (base : Nat) (A : Option Addr) (n c : Nat) (cs : List Value) (D : Option Addr) (m d : Nat) (news : List Value)
    (hs : a.eval s = .slice A n c) (hx : a.eval x = .slice D m d) (hown : Ow e k w base A n c cs)
    (hl : news.length = m * k) (hnews : 0 < m → ∃ b o, D = some ⟨b, o, none⟩ ∧ ∀ j u, news[j]? = some u → w.cell? ⟨b, o + j, none⟩ = some u) (h1 : ∀ u ∈ news, u.oneCell' = true) (hlen : (n + m) * by' ≤ 140737488355328) (hbase : base ≤ w.heap.size)
    (h : ∀ A' c' w', Ow e k w' base A' (n + m) c' (cs ++ news) → w.grownBy w' (A.map (·.block)) → Below base w w' → (A'.map (·.block) = A.map (·.block) ∨ A'.map (·.block) = some w.heap.size) → wpListIn F fd Tryd.prog ops Q rest (a.put o.dst (.slice A' (n + m) c')) w') :
    wpListIn F fd Tryd.prog ops Q (o :: rest) a w := by
  obtain ⟨A', c', w', hrun, h2, h3, h4, h5⟩ := run_app hT o.type w base A n c cs hown D m d news hl hnews h1 hlen hbase
  refine wpListIn_plain hgd fun K hK => ?_
  unfold Oper.wpIn
  refine ⟨?_, ?_⟩
  · simp [Oper.about, ho, resolve, Target.leads, Sem.run_pure]
  · rw [Oper.semAt_plain F _ _ (by rw [ho]; intro c hc'; cases hc')]
    simp [execOp, ho, resolve, invoke, builtin, hs, hx, hrun, Result.andThen]
    exact hK _ _ (h A' c' w' h2 h3 h4 h5)
/-- .. at a step of a region that draws its order. -/
theorem appStep {t e k by' : Nat} {z : Value} (hT : ElT t e k by' z) {ops : Array Oper} {o : Oper} {a : Act} {K : Act → World → Prop} {Q : Exit → Act → World → Prop} {E : Prop} (hw : Region.wanted o (yielded ops a.tmps) = true) (s x : Operand)
    (ho : o.op = .call { callee := .builtin .append, args := #[s, x], argTypes := #[t, t] })
    (w : World) (base : Nat) (A : Option Addr) (n c : Nat) (cs : List Value) (D : Option Addr) (m d : Nat) (news : List Value)
    (hs : a.eval s = .slice A n c) (hx : a.eval x = .slice D m d) (hown : Ow e k w base A n c cs)
    (hl : news.length = m * k) (hnews : 0 < m → ∃ b o, D = some ⟨b, o, none⟩ ∧ ∀ j u, news[j]? = some u → w.cell? ⟨b, o + j, none⟩ = some u) (h1 : ∀ u ∈ news, u.oneCell' = true) (hlen : (n + m) * by' ≤ 140737488355328) (hbase : base ≤ w.heap.size)
    (h : ∀ A' c' w', Ow e k w' base A' (n + m) c' (cs ++ news) → w.grownBy w' (A.map (·.block)) → Below base w w' → (A'.map (·.block) = A.map (·.block) ∨ A'.map (·.block) = some w.heap.size) → K (a.put o.dst (.slice A' (n + m) c')) w') :
    if Region.wanted o (yielded ops a.tmps) = true then Oper.wp Tryd.prog o a w K Q else E := by
  obtain ⟨A', c', w', hrun, h2, h3, h4, h5⟩ := run_app hT o.type w base A n c cs hown D m d news hl hnews h1 hlen hbase
  rw [if_pos hw]
  unfold Oper.wp execOp
  simp only [ho, resolve, invoke, builtin, Sem.run_bind, Sem.run_pure, Result.andThen_ok, List.map_toArray, List.map_cons, List.map_nil, hs, hx, hrun]
  exact h A' c' w' h2 h3 h4 h5
/-- The source of 'append(s, x)': one element in a block of its own. -/
theorem news_new (w : World) (cs : List Value) (e : TypeId) : 0 < 1 → ∃ b o, some (⟨w.heap.size, 0, none⟩ : Addr) = some ⟨b, o, none⟩ ∧ ∀ j u, cs[j]? = some u → (w.alloc (.cells cs.toArray e)).cell? ⟨b, o + j, none⟩ = some u :=
  fun _ => ⟨_, _, rfl, fun j u hu => by rw [Nat.zero_add, World.cell?_alloc_new]; simpa using hu⟩

/-- Ints. -/
def ic (xs : List Int) : List Value := xs.map (Value.int .i64)
theorem ic_len (xs : List Int) : (ic xs).length = xs.length * 1 := by simp [ic]
theorem ic_one (xs : List Int) : ∀ u ∈ ic xs, u.oneCell' = true := by intro u hu; simp [ic] at hu; obtain ⟨a, _, rfl⟩ := hu; rfl
theorem ic_app (xs ys : List Int) : ic (xs ++ ys) = ic xs ++ ic ys := by simp [ic]
theorem Ow.rd {w : World} {base n c : Nat} {A : Option Addr} {xs : List Int} (h : Ow 3 1 w base A n c (ic xs)) : Rd w (lo w.heap.size) A n xs := by
  have hl := h.len
  rw [ic_len] at hl
  refine ⟨by omega, fun hn => ?_⟩
  obtain ⟨g, rfl, hb, hlt⟩ := h.form hn
  refine ⟨g, 0, rfl, hlt, fun i x hx => ⟨[.int .i64 x], rfl, fun j v hv => ?_⟩⟩
  match j, hv with
  | 0, hv =>
    simp at hv; subst hv
    have := h.cell (j := i) (x := .int .i64 x) (by simp [ic, hx])
    simpa using this
/-- Items. -/
def itc (xs : List Itm) : List Value := xs.flatMap itmC
theorem itc_len (xs : List Itm) : (itc xs).length = xs.length * 6 := by
  induction xs with
  | nil => rfl
  | cons x t ih => simp [itc, itmC] at ih ⊢; omega
theorem itc_one (xs : List Itm) : ∀ u ∈ itc xs, u.oneCell' = true := by
  intro u hu; simp [itc, itmC] at hu; obtain ⟨a, _, h⟩ := hu
  rcases h with rfl | rfl | rfl | rfl | rfl | rfl <;> rfl
theorem itc_app (xs ys : List Itm) : itc (xs ++ ys) = itc xs ++ itc ys := by simp [itc]
theorem itc_at {xs : List Itm} {i : Nat} {x : Itm} (h : xs[i]? = some x) {j : Nat} {v : Value} (hv : (itmC x)[j]? = some v) : (itc xs)[i * 6 + j]? = some v := by
  obtain ⟨hl, rfl⟩ := List.getElem?_eq_some_iff.1 h
  have e : xs = xs.take i ++ (xs[i] :: xs.drop (i + 1)) := by rw [List.getElem_cons_drop, List.take_append_drop]
  have hj : j < 6 := by have := (List.getElem?_eq_some_iff.1 hv).1; simpa [itmC] using this
  have e2 : itc xs = itc (xs.take i) ++ (itmC xs[i] ++ itc (xs.drop (i + 1))) := by
    conv => lhs; rw [e, itc_app]
    rfl
  have l1 : (itc (xs.take i)).length = i * 6 := by rw [itc_len, List.length_take]; congr 1; omega
  have l2 : (itmC xs[i]).length = 6 := rfl
  rw [e2, List.getElem?_append_right (by omega), l1, Nat.add_sub_cancel_left, List.getElem?_append_left (by omega)]
  exact hv
theorem Ow.rdI {w : World} {base n c : Nat} {A : Option Addr} {xs : List Itm} (h : Ow 76 6 w base A n c (itc xs)) : RdI w (lo w.heap.size) A n xs := by
  have hl := h.len
  rw [itc_len] at hl
  refine ⟨by omega, fun hn => ?_⟩
  obtain ⟨g, rfl, hb, hlt⟩ := h.form hn
  refine ⟨g, 0, rfl, hlt, fun i x hx => ⟨itmC x, rfl, fun j v hv => ?_⟩⟩
  rw [Nat.zero_add]
  exact h.cell (itc_at hx hv)

theorem Rd.call {w w' : World} {A : Option Addr} {n : Nat} {xs : List Int} (h : Rd w (lo w.heap.size) A n xs) (k : Below w.heap.size w w') : Rd w' (lo w'.heap.size) A n xs := h.mono (lo_mono k.size) (kept_below k)
theorem RdV.call {w w' : World} {A : Option Addr} {n : Nat} {xs : List (List Int)} (h : RdV w (lo w.heap.size) A n xs) (k : Below w.heap.size w w') : RdV w' (lo w'.heap.size) A n xs := h.mono (lo_mono k.size) (kept_below k)
theorem RdI.call {w w' : World} {A : Option Addr} {n : Nat} {xs : List Itm} (h : RdI w (lo w.heap.size) A n xs) (k : Below w.heap.size w w') : RdI w' (lo w'.heap.size) A n xs := h.mono (lo_mono k.size) (kept_below k)
theorem RdR.call {w w' : World} {A : Option Addr} {n : Nat} {xs : List Rul} (h : RdR w (lo w.heap.size) A n xs) (k : Below w.heap.size w w') : RdR w' (lo w'.heap.size) A n xs := h.mono (lo_mono k.size) (kept_below k)
theorem IsF.call {w w' : World} {f : FV} {F : Fnt} (h : IsF w (lo w.heap.size) f F) (k : Below w.heap.size w w') : IsF w' (lo w'.heap.size) f F := h.mono (lo_mono k.size) (kept_below k)
theorem cell_call {w w' : World} {p : Addr} {v : Value} (h : w.cell? p = some v) (k : Below w.heap.size w w') : w'.cell? p = some v := (k.cell (cell_lt h)).trans h

end Go.Proofs.YtgcmedkaadagmaaDoor
