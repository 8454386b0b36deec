/- Words on maps of ints that the call makes: what a map holds, as a function. -/
import Derived.Test.YtgcmedkaadagmaaDoorS6W3
import Derived.Maps.Own
import Derived.Maps.OwnOps
import Derived.Maps.OwnSet
namespace Go.Proofs.YtgcmedkaadagmaaDoor.S6
open Go.RowKit Go.Maps

theorem law3 : Keyed Tryd.prog 3 := int_keyed Tryd.underlying3
theorem zero3 (w : World) : (zeroValue 3).run Tryd.prog w = .ok (.int .i64 0) w := by kernel_rfl

/-- Block b is a map of at most n entries, sz of them, that holds just what f says. -/
def Mp (w : World) (b n : Nat) (f : Int → Option Int) (sz : Nat) : Prop :=
  ∃ D : DataW Unit, w.ownsMap Tryd.prog 3 (plainElem Tryd.prog 3) b n D ∧ Tidy D ∧ Maps.size D = sz ∧ ∀ k : Int, Maps.has D (.int .i64 k) = (f k).isSome ∧ ∀ v, f k = some v → D.atKey (.int .i64 k) (.lit (.int .i64 0)) = .lit (.int .i64 v)

theorem Mp.made (w : World) : Mp (w.alloc (.map #[] 0)) w.heap.size 0 (fun _ => none) 0 :=
  ⟨.map [], World.ownsMap_made _ _ _ _, tidy_empty, rfl, fun k => ⟨rfl, fun v h => by cases h⟩⟩
theorem Mp.lt {w : World} {b n sz : Nat} {f : Int → Option Int} (h : Mp w b n f sz) : b < w.heap.size := by obtain ⟨D, h1, _⟩ := h; exact h1.lt
theorem Mp.kept {w w' : World} {b n sz : Nat} {f : Int → Option Int} (h : Mp w b n f sz) {row : Option Nat} (hg : w.grownBy w' row) (hne : some b ≠ row) : Mp w' b n f sz := by
  obtain ⟨D, h1, h2⟩ := h; exact ⟨D, h1.kept hg hne, h2⟩
theorem Mp.at {f : Int → Option Int} {D : DataW Unit} (h : ∀ k : Int, Maps.has D (.int .i64 k) = (f k).isSome ∧ ∀ v, f k = some v → D.atKey (.int .i64 k) (.lit (.int .i64 0)) = .lit (.int .i64 v)) {k c : Int}
    (hc : D.atKey (.int .i64 k) (.lit (.int .i64 0)) = .lit (.int .i64 c)) : c = (f k).getD 0 := by
  obtain ⟨h1, h2⟩ := h k
  cases hf : f k with
  | none =>
    rw [hf] at h1
    rw [atKey_of_not_has h1] at hc
    injection hc with hc; injection hc with _ hc; exact hc.symm
  | some v =>
    rw [h2 v hf] at hc
    injection hc with hc; injection hc with _ hc; exact hc.symm

theorem mpLookOk {ops : Array Oper} {rest : List Oper} {o : Oper} {a : Act} {Q : Exit → Act → World → Prop} (hgd : o.guard = none) (m x : Operand) (ho : o.op = Op.lookup 136 m x true) (w : World) (b n sz : Nat) (f : Int → Option Int) (k : Int)
    (hm : a.eval m = .map (some b)) (hx : a.eval x = .int .i64 k) (hk : (Lit.int .i64 k).wf = true) (h : Mp w b n f sz)
    (hK : wpList Tryd.prog ops Q rest (a.put o.dst (.tuple #[.int .i64 ((f k).getD 0), .bool (f k).isSome])) w) : wpList Tryd.prog ops Q (o :: rest) a w := by
  obtain ⟨D, h1, h2, h3, h4⟩ := h
  refine wpList_lookup_own_ok_int w hgd m x 136 ho 3 3 .i64 law3 Tryd.underlying136 Tryd.underlying3 (zero3 _) b n D hm h1 _ _ hx (keyOf_int_mk Tryd.underlying3 hk) ?_
  intro c hc _
  rw [(h4 k).1, Mp.at h4 hc]
  exact hK
theorem mpGet {ops : Array Oper} {rest : List Oper} {o : Oper} {a : Act} {Q : Exit → Act → World → Prop} (hgd : o.guard = none) (m x : Operand) (ho : o.op = Op.lookup 136 m x false) (w : World) (b n sz : Nat) (f : Int → Option Int) (k : Int)
    (hm : a.eval m = .map (some b)) (hx : a.eval x = .int .i64 k) (hk : (Lit.int .i64 k).wf = true) (h : Mp w b n f sz)
    (hK : wpList Tryd.prog ops Q rest (a.put o.dst (.int .i64 ((f k).getD 0))) w) : wpList Tryd.prog ops Q (o :: rest) a w := by
  obtain ⟨D, h1, h2, h3, h4⟩ := h
  refine wpList_lookup_own_int w hgd m x 136 ho 3 3 .i64 law3 Tryd.underlying136 Tryd.underlying3 (zero3 _) b n D hm h1 _ _ hx (keyOf_int_mk Tryd.underlying3 hk) ?_
  intro c hc _
  rw [Mp.at h4 hc]
  exact hK
theorem mpLen {ops : Array Oper} {rest : List Oper} {o : Oper} {a : Act} {Q : Exit → Act → World → Prop} (hgd : o.guard = none) (m : Operand) (ho : o.op = Op.call { callee := Callee.builtin Builtin.len, args := #[m], argTypes := #[136] }) (w : World) (b n sz : Nat) (f : Int → Option Int)
    (hm : a.eval m = .map (some b)) (h : Mp w b n f sz) (hK : wpList Tryd.prog ops Q rest (a.put o.dst (.int .i64 (sz : Int))) w) : wpList Tryd.prog ops Q (o :: rest) a w := by
  obtain ⟨D, h1, h2, h3, h4⟩ := h
  refine wpList_len_own w hgd m 136 ho 3 3 Tryd.underlying136 _ b n D hm h1 ?_
  rw [h3]; exact hK
theorem mpPut {ops : Array Oper} {rest : List Oper} {o : Oper} {a : Act} {Q : Exit → Act → World → Prop} (hgd : o.guard = none) (m x v : Operand) (ho : o.op = Op.mapUpdate 136 m x v) (w : World) (b n sz : Nat) (f : Int → Option Int) (k z : Int)
    (hm : a.eval m = .map (some b)) (hx : a.eval x = .int .i64 k) (hv : a.eval v = .int .i64 z) (hk : (Lit.int .i64 k).wf = true) (hz : (Lit.int .i64 z).wf = true) (hn : n < maxLen) (h : Mp w b n f sz)
    (hK : ∀ w', Mp w' b (n + 1) (fun j => if j = k then some z else f j) (if (f k).isSome then sz else sz + 1) → w.grownBy w' (some b) → wpList Tryd.prog ops Q rest (a.put o.dst undef) w') : wpList Tryd.prog ops Q (o :: rest) a w := by
  obtain ⟨D, h1, h2, h3, h4⟩ := h
  refine wpList_mapUpdate_own w hgd m x v 136 ho 3 3 law3 Tryd.underlying136 _ b n D hm h1 hn _ _ _ hx hv (keyOf_int_mk Tryd.underlying3 hk) _ [] (plainElem_int Tryd.underlying3 hz) ?_
  intro w' h1' hg
  have hkl : WideAt.IsKeyLit (Lit.int .i64 k) := trivial
  refine hK w' ⟨_, h1', h2.put hkl _, ?_, fun j => ?_⟩ hg
  · rw [size_put h2, (h4 k).1, h3]
  · by_cases e : j = k
    · subst e
      refine ⟨by rw [has_put_same h2.isMap hkl]; simp, fun u hu => ?_⟩
      simp at hu; subst hu
      exact atKey_put_same h2.isMap hkl _ _
    · have hne : (Lit.int .i64 j) ≠ (Lit.int .i64 k) := fun h => by injection h with _ h; exact e h
      rw [has_put_other hne, atKey_put_other hne]
      simp only [if_neg e]
      exact h4 j

end Go.Proofs.YtgcmedkaadagmaaDoor.S6
