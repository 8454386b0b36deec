/- Words on a row as one whole block: copy, clear and append in place, of items. -/
import Derived.Test.YtkoocipagndclaaW18
import Derived.Laws.CopyRow
import Derived.Lib.AppendZerosOnto
import Derived.Lib.Overlaps
import Derived.Deep.RegionLaw
import Derived.Shelf.RegionOpenPlain
namespace Go.Proofs.Ytkoocipagndclaa
open Go.RowKit Go.Shelf

/-- A copy, an append, a clear, whose run is known. -/
theorem apRun {ops : Array Oper} {rest : List Oper} {o : Oper} {a : Act} {w : World} {Q : Exit → Act → World → Prop} (hgd : o.guard = none) (s x : Operand) (t t' : TypeId)
    (ho : o.op = .call { callee := .builtin .append, args := #[s, x], argTypes := #[t, t'] }) (v u : Value) (hs : a.eval s = v) (hx : a.eval x = u) {v' : Value} {w' : World}
    (hr : (Builtin.append_ #[t, t'] o.type #[v, u]).run Try.prog w = .ok v' w') (h : wpList Try.prog ops Q rest (a.put o.dst v') w') : wpList Try.prog ops Q (o :: rest) a w := by
  refine wpList_plain hgd fun K hK => ?_
  unfold Oper.wp execOp
  simp only [ho, resolve, invoke, builtin, Sem.run_bind, Sem.run_pure, Result.andThen_ok, List.map_toArray, List.map_cons, List.map_nil, hs, hx, hr]
  exact hK _ _ h
theorem cpRun {ops : Array Oper} {rest : List Oper} {o : Oper} {a : Act} {w : World} {Q : Exit → Act → World → Prop} (hgd : o.guard = none) (s x : Operand) (t t' : TypeId)
    (ho : o.op = .call { callee := .builtin .copy, args := #[s, x], argTypes := #[t, t'] }) (v u : Value) (hs : a.eval s = v) (hx : a.eval x = u) {v' : Value} {w' : World}
    (hr : (Builtin.copy_ #[t, t'] o.type #[v, u]).run Try.prog w = .ok v' w') (h : wpList Try.prog ops Q rest (a.put o.dst v') w') : wpList Try.prog ops Q (o :: rest) a w := by
  refine wpList_plain hgd fun K hK => ?_
  unfold Oper.wp execOp
  simp only [ho, resolve, invoke, builtin, Sem.run_bind, Sem.run_pure, Result.andThen_ok, List.map_toArray, List.map_cons, List.map_nil, hs, hx, hr]
  exact hK _ _ h
theorem clRun {ops : Array Oper} {rest : List Oper} {o : Oper} {a : Act} {w : World} {Q : Exit → Act → World → Prop} (hgd : o.guard = none) (s : Operand) (t : TypeId)
    (ho : o.op = .call { callee := .builtin .clear, args := #[s], argTypes := #[t] }) (v : Value) (hs : a.eval s = v) {v' : Value} {w' : World}
    (hr : (Builtin.clear_ #[t] o.type #[v]).run Try.prog w = .ok v' w') (h : wpList Try.prog ops Q rest (a.put o.dst v') w') : wpList Try.prog ops Q (o :: rest) a w := by
  refine wpList_plain hgd fun K hK => ?_
  unfold Oper.wp execOp
  simp only [ho, resolve, invoke, builtin, Sem.run_bind, Sem.run_pure, Result.andThen_ok, List.map_toArray, List.map_cons, List.map_nil, hs, hr]
  exact hK _ _ h
theorem cpStep {ops : Array Oper} {o : Oper} {a : Act} {w : World} {K : Act → World → Prop} {Q : Exit → Act → World → Prop} {E : Prop}
    (hg : o.guard = none) (d x : Operand) (dT sT : TypeId) (hop : o.op = Op.call { callee := Callee.builtin Builtin.copy, args := #[d, x], argTypes := #[dT, sT] })
    (v u : Value) (hd : a.eval d = v) (hx : a.eval x = u) {v' : Value} {w' : World} (hr : (Builtin.copy_ #[dT, sT] o.type #[v, u]).run Try.prog w = .ok v' w') (hK : K (a.put o.dst v') w') :
    if Region.wanted o (yielded ops a.tmps) = true then Oper.wp Try.prog o a w K Q else E := by
  have hw : Region.wanted o (yielded ops a.tmps) = true := by simp [Region.wanted, hg]
  rw [if_pos hw]
  unfold Oper.wp execOp
  simp only [hop, resolve, invoke, builtin, Sem.run_bind, Sem.run_pure, Result.andThen_ok, List.map_toArray, List.map_cons, List.map_nil, hd, hx, hr]
  exact hK

/-- The block g is a row of c items, its cells cur, of the call's own. -/
structure FB (w : World) (base g c : Nat) (cur : List Value) : Prop where
  hg : w.heap[g]? = some (.cells cur.toArray 51 (0, 0))
  hb : base ≤ g
  hl : cur.length = c * 6
  hc : c ≤ 9223372036854775807
theorem FB.lt {w : World} {base g c : Nat} {cur : List Value} (h : FB w base g c cur) : g < w.heap.size := (Array.getElem?_eq_some_iff.1 h.hg).1
theorem FB.of {w : World} {base g n c : Nat} {cs : List Value} (h : Ow 51 6 w base (some ⟨g, 0, none⟩) n c cs) : ∃ cur, FB w base g c cur ∧ cur.take (n * 6) = cs ∧ n ≤ c := by
  rcases h.2 with ⟨e, _⟩ | ⟨g', cap, cur, e, hgb, hcell, hnc, hm, hsz1, hsz2⟩
  · injection e with e; cases e
  · injection e with e e2 e3
    injection e with e
    injection e with e
    subst e; subst e3
    exact ⟨cur.toList, ⟨by simpa using hcell, hgb, by simpa using hsz1, by unfold maxLen at hm; omega⟩, hsz2, hnc⟩
theorem FB.ow {w : World} {base g c : Nat} {cur : List Value} (h : FB w base g c cur) (n : Nat) (hn : n ≤ c) {cs : List Value} (hcs : cur.take (n * 6) = cs) : Ow 51 6 w base (some ⟨g, 0, none⟩) n c cs := by
  have hl : cs.length = n * 6 := by rw [← hcs, List.length_take, h.hl]; omega
  exact ⟨hl, .inr ⟨g, c, cur.toArray, rfl, h.hb, h.hg, hn, by have := h.hc; unfold maxLen; omega, by simpa using h.hl, by simpa using hcs⟩⟩
theorem FB.keep {w w' : World} {base g c : Nat} {cur : List Value} (h : FB w base g c cur) (hk : w'.heap[g]? = w.heap[g]?) : FB w' base g c cur := ⟨hk.trans h.hg, h.hb, h.hl, h.hc⟩
theorem FB.cell {w : World} {base g c : Nat} {cur : List Value} (h : FB w base g c cur) {j : Nat} {v : Value} (hj : cur[j]? = some v) : w.cell? ⟨g, j, none⟩ = some v := by simp [World.cell?, h.hg, hj]
/-- Cells laid into a row. -/
def layAt (cur : List Value) (d : Nat) (cs : List Value) : List Value := cur.take d ++ cs ++ cur.drop (d + cs.length)
theorem layAt_len {cur : List Value} {d : Nat} {cs : List Value} (h : d + cs.length ≤ cur.length) : (layAt cur d cs).length = cur.length := by
  unfold layAt; simp only [List.length_append, List.length_take, List.length_drop]; omega
theorem FB.lay {w : World} {base g c : Nat} {cur : List Value} (h : FB w base g c cur) (d : Nat) (cs : List Value) (hd : d + cs.length ≤ c * 6) : FB (w.setRow g (layAt cur d cs).toArray) base g c (layAt cur d cs) ∧ w.grownBy (w.setRow g (layAt cur d cs).toArray) (some g) :=
  ⟨⟨setRow_heap w g _ _ 51 (0, 0) h.hg, h.hb, by rw [layAt_len (by rw [h.hl]; exact hd), h.hl], h.hc⟩, ⟨rfl, rfl, rfl, by simp [World.setRow], fun b hb hne => setRow_other w g b _ (fun e => hne (by rw [e]))⟩⟩
theorem hu_items : Try.prog.underlying 32 = some (.slice 51) := Try.underlying32
theorem hz_item : (Try.prog.info? 51).map (·.size) = some 6 := by kernel_rfl
theorem run_lay {w : World} {base g c : Nat} {cur : List Value} (h : FB w base g c cur) (d : Nat) (cs : List Value) (hd : d + cs.length ≤ c * 6) (h1 : ∀ v ∈ cs, v.oneCell' = true) : (storeCells ⟨g, d, none⟩ cs 0).run Try.prog w = .ok () (w.setRow g (layAt cur d cs).toArray) := by
  have := run_storeCells_at Try.prog g d 51 cs 0 cur.toArray w h.hg (by have := h.hl; simp; omega) h1
  simpa [layAt] using this
/-- 'copy(r[d:], s)', where s reads as cs: all of it has room. -/
theorem run_cpAt {w : World} {base g c : Nat} {cur : List Value} (h : FB w base g c cur) (ty : TypeId) (d dLen dCap : Nat) (A : Option Addr) (m sCap : Nat) (cs : List Value) (hm : m ≤ dLen) (hcs : cs.length = m * 6) (hsrc : 0 < m → ∃ b o, A = some ⟨b, o, none⟩ ∧ ∀ j v, cs[j]? = some v → w.cell? ⟨b, o + j, none⟩ = some v) (hd : d + cs.length ≤ c * 6) (h1 : ∀ v ∈ cs, v.oneCell' = true) :
    (Builtin.copy_ #[32, 32] ty #[.slice (some ⟨g, d, none⟩) dLen dCap, .slice A m sCap]).run Try.prog w = .ok (goInt m) (w.setRow g (layAt cur d cs).toArray) := by
  have hst := run_lay h d cs hd h1
  have hmn : Nat.min m dLen = m := Nat.min_eq_left hm
  cases hq : Try.prog.info? 51 with
  | none => have := hz_item; rw [hq] at this; simp at this
  | some i =>
    have hi : i.size = 6 := by have := hz_item; rw [hq] at this; simpa using this
    rcases Nat.eq_zero_or_pos m with h0 | h0
    · subst h0
      have hn : cs = [] := List.eq_nil_of_length_eq_zero (by omega)
      subst hn
      cases A <;> simp [Builtin.copy_, run_underlying hu_items, Builtin.lenOf, Builtin.firstCells, sizeOf, typeInfo, hq, hmn, loadCells, loadCellsFrom, hst]
    · obtain ⟨b, o, rfl, hc⟩ := hsrc h0
      have hl := run_loadCells_list (P := Try.prog) w ⟨b, o, none⟩ cs (fun j v hv => by
        rw [← hc j v hv]; unfold Addr.add; split
        · rename_i h0; subst h0; rfl
        · rfl)
      simp [Builtin.copy_, run_underlying hu_items, Builtin.lenOf, Builtin.firstCells, sizeOf, typeInfo, hq, hi, hmn, ← hcs, hl, hst]
/-- 'append(r[:n], s...)', where s reads as cs: there is room. -/
theorem run_apAt {w : World} {base g c : Nat} {cur : List Value} (h : FB w base g c cur) (ty : TypeId) (n : Nat) (A : Option Addr) (m sCap : Nat) (cs : List Value) (hr : n + m ≤ c) (hcs : cs.length = m * 6) (hsrc : 0 < m → ∃ b o, A = some ⟨b, o, none⟩ ∧ ∀ j v, cs[j]? = some v → w.cell? ⟨b, o + j, none⟩ = some v) (h1 : ∀ v ∈ cs, v.oneCell' = true) :
    (Builtin.append_ #[32, 32] ty #[.slice (some ⟨g, 0, none⟩) n c, .slice A m sCap]).run Try.prog w = .ok (.slice (some ⟨g, 0, none⟩) (n + m) c) (w.setRow g (layAt cur (n * 6) cs).toArray) := by
  have hst := run_lay h (n * 6) cs (by rw [hcs]; have := h.hl; omega) h1
  have hadd : (⟨g, 0, none⟩ : Addr).add (n * 6) = ⟨g, n * 6, none⟩ := by unfold Addr.add; split <;> simp_all
  cases hq : Try.prog.info? 51 with
  | none => have := hz_item; rw [hq] at this; simp at this
  | some i =>
    have hi : i.size = 6 := by have := hz_item; rw [hq] at this; simpa using this
    rcases Nat.eq_zero_or_pos m with h0 | h0
    · subst h0
      have hn : cs = [] := List.eq_nil_of_length_eq_zero (by omega)
      subst hn
      have hr' : n ≤ c := by omega
      cases A <;> simp [Builtin.append_, run_underlying hu_items, Builtin.lenOf, Builtin.firstCells, sizeOf, typeInfo, hq, hi, hr', hadd, loadCells, loadCellsFrom, hst]
    · obtain ⟨b, o, rfl, hc⟩ := hsrc h0
      have hl := run_loadCells_list (P := Try.prog) w ⟨b, o, none⟩ cs (fun j v hv => by
        rw [← hc j v hv]; unfold Addr.add; split
        · rename_i h0; subst h0; rfl
        · rfl)
      simp [Builtin.append_, run_underlying hu_items, Builtin.lenOf, Builtin.firstCells, sizeOf, typeInfo, hq, hi, hr, hadd, ← hcs, hl, hst]
/-- One item's zero cells. -/
def zeroI : List Value := [.int .i64 0, .int .i64 0, .int .i64 0, .int .i64 0, .int .i64 0, .int .i64 0]
/-- 'clear(r[d:])', of one item; of none. -/
theorem run_clAt {w : World} {base g c : Nat} {cur : List Value} (h : FB w base g c cur) (ty : TypeId) (d dCap : Nat) (hd : d + 6 ≤ c * 6) :
    (Builtin.clear_ #[32] ty #[.slice (some ⟨g, d, none⟩) 1 dCap]).run Try.prog w = .ok (.tuple #[]) (w.setRow g (layAt cur d zeroI).toArray) := by
  have hst := run_lay h d zeroI (by simpa [zeroI] using hd) (by intro v hv; simp [zeroI] at hv; subst hv; rfl)
  obtain ⟨i0, hi, hz0, hz1, hz2⟩ := info_parts elt_item.hi
  have hzc : (Builtin.zeroCells (Value.agg #[.int .i64 0, .int .i64 0, .int .i64 0, .int .i64 0, .int .i64 0, .int .i64 0]).cells 1).toList = zeroI := by kernel_rfl
  simp [Builtin.clear_, run_underlying hu_items, zeroValue, typeInfo, hi, hz0, hzc, hst]
theorem run_clNone (w : World) (A : Option Addr) (ty : TypeId) (dCap : Nat) :
    (Builtin.clear_ #[32] ty #[.slice A 0 dCap]).run Try.prog w = .ok (.tuple #[]) w := by
  cases A <;> simp [Builtin.clear_, run_underlying hu_items]

section
variable {cur cs : List Value} {d k : Nat}
theorem lay_take_le (hk : k ≤ d) (hd : d ≤ cur.length) : (layAt cur d cs).take k = cur.take k := by
  unfold layAt
  rw [List.append_assoc, List.take_append_of_le_length (by simp; omega), List.take_take, Nat.min_eq_left hk]
theorem lay_mid (hd : d ≤ cur.length) : (layAt cur d cs).drop d = cs ++ cur.drop (d + cs.length) := by
  unfold layAt
  rw [List.append_assoc]
  exact List.drop_left' (by simp; omega)
theorem lay_drop (hd : d ≤ cur.length) : (layAt cur d cs).drop (d + cs.length) = cur.drop (d + cs.length) := by
  rw [← List.drop_drop, lay_mid hd]
  exact List.drop_left' rfl
theorem lay_take (hd : d ≤ cur.length) : (layAt cur d cs).take (d + cs.length) = cur.take d ++ cs := by
  unfold layAt
  exact List.take_left' (by simp; omega)
theorem lay_more (hd : d ≤ cur.length) : (layAt cur d cs).take (d + cs.length + k) = cur.take d ++ cs ++ (cur.drop (d + cs.length)).take k := by
  rw [List.take_add, lay_take hd, lay_drop hd]
end
/-- What lies in a row of items, part by part. -/
theorem parts_at {run : List Itm} {cur : List Value} {n i : Nat} (hc : cur.take (n * 6) = itc run) (hl : run.length = n) (hi : i < n) :
    cur.take (i * 6) = itc (run.take i) ∧ (cur.drop ((i + 1) * 6)).take ((n - (i + 1)) * 6) = itc (run.drop (i + 1)) := by
  have e1 : itc run = itc (run.take i) ++ itc (run.drop i) := by rw [← itc_app, List.take_append_drop]
  have e2 : itc run = itc (run.take (i + 1)) ++ itc (run.drop (i + 1)) := by rw [← itc_app, List.take_append_drop]
  have l1 : (itc (run.take i)).length = i * 6 := by rw [itc_len, List.length_take]; omega
  have l2 : (itc (run.take (i + 1))).length = (i + 1) * 6 := by rw [itc_len, List.length_take]; omega
  constructor
  · have : (cur.take (n * 6)).take (i * 6) = itc (run.take i) := by rw [hc, e1]; exact List.take_left' l1
    rw [List.take_take, Nat.min_eq_left (by omega)] at this
    exact this
  · have : (cur.take (n * 6)).drop ((i + 1) * 6) = itc (run.drop (i + 1)) := by rw [hc, e2]; exact List.drop_left' l2
    rw [List.drop_take] at this
    rw [← this]; congr 1; omega

end Go.Proofs.Ytkoocipagndclaa
