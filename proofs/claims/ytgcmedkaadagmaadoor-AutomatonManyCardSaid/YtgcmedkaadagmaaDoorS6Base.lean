/- Words on slices of ints for the walks of this seat: what a slice reads as, what the call owns, and how these stay over new blocks, stores and appends. -/
import Derived.Test.YtgcmedkaadagmaaDoorProg
import Derived.WalkKit
import Derived.WalkSpells
import Derived.WalkLawsBesides
import Derived.Deep.Draws
import Derived.Deep.AppendLies
import Derived.Maps.AppendAt
import Derived.Lib.Hide
namespace Go.Proofs.YtgcmedkaadagmaaDoor.S6
open Go.RowKit

/-- The slice value with address A and length n reads as xs in w, and lies below block B. -/
def Rd (w : World) (B : Nat) (A : Option Addr) (n : Nat) (xs : List Int) : Prop :=
  xs.length = n ∧ (0 < n → ∃ b o, A = some ⟨b, o, none⟩ ∧ b < B ∧ ∀ (i : Nat) (x : Int), xs[i]? = some x → w.cell? ⟨b, o + i, none⟩ = some (.int .i64 x))

/-- The slice value is the call's own row (from block base on) and holds xs. -/
def Ow (w : World) (base : Nat) (A : Option Addr) (n c : Nat) (xs : List Int) : Prop :=
  w.ownsRow base 3 1 (.slice A n c) n (xs.map (Value.int .i64))

section
variable {w w' : World} {B B' n c base : Nat} {A : Option Addr} {xs : List Int}

theorem Rd.len (h : Rd w B A n xs) : xs.length = n := h.1
theorem Rd.nil : Rd w B A 0 [] := ⟨rfl, fun h => absurd h (by omega)⟩
theorem Rd.pos (h : Rd w B A n xs) (hn : 0 < n) : ∃ b o, A = some ⟨b, o, none⟩ ∧ b < B ∧ ∀ (i : Nat) (x : Int), xs[i]? = some x → w.cell? ⟨b, o + i, none⟩ = some (.int .i64 x) := h.2 hn
theorem Rd.keep (h : Rd w B A n xs) (hk : ∀ p : Addr, p.block < B → w'.cell? p = w.cell? p) : Rd w' B A n xs :=
  ⟨h.1, fun hn => by
    obtain ⟨b, o, e, hb, hc⟩ := h.2 hn
    exact ⟨b, o, e, hb, fun i x hx => (hk _ hb).trans (hc i x hx)⟩⟩
theorem Rd.more (h : Rd w B A n xs) (hB : B ≤ B') : Rd w B' A n xs :=
  ⟨h.1, fun hn => by
    obtain ⟨b, o, e, hb, hc⟩ := h.2 hn
    exact ⟨b, o, e, by omega, hc⟩⟩
theorem Rd.below (h : Rd w B A n xs) (hb : Below B w w') : Rd w' B A n xs := h.keep fun _ hp => hb.cell hp
theorem Rd.alloc (h : Rd w B A n xs) (hB : B ≤ w.heap.size) (o : Obj) : Rd (w.alloc o) B A n xs := h.keep fun p hp => World.cell?_alloc_lt w o p (by omega)
theorem Rd.setCell (h : Rd w B A n xs) {p : Addr} (hB : B ≤ p.block) (u : Value) : Rd (w.setCell p u) B A n xs :=
  h.keep fun q hq => World.cell?_setCell_other w p q u (fun e => by subst e; omega)
theorem Rd.take (h : Rd w B A n xs) (m : Nat) (hm : m ≤ n) : Rd w B A m (xs.take m) :=
  ⟨by rw [List.length_take, h.1]; omega, fun h0 => by
    obtain ⟨b, o, e, hb, hc⟩ := h.2 (by omega)
    refine ⟨b, o, e, hb, fun i x hx => hc i x ?_⟩
    rw [List.getElem?_take] at hx
    split at hx
    · exact hx
    · cases hx⟩
theorem Rd.drew (h : Rd w B A n xs) : Rd w.drew B A n xs := h
theorem Rd.drewN (h : Rd w B A n xs) (k : Nat) : Rd (w.drewN k) B A n xs := h

theorem Ow.len (h : Ow w base A n c xs) : xs.length = n := by have := h.1; simpa using this
theorem Ow.nil (w : World) (base : Nat) : Ow w base none 0 0 [] := World.ownsRow_nil w base 3 1
theorem Ow.lt (h : Ow w base A n c xs) : ∀ b o s, A = some ⟨b, o, s⟩ → base ≤ b ∧ b < w.heap.size := fun b o s e => by
  subst e; exact World.ownsRow.lt h b rfl
theorem Ow.rd (h : Ow w base A n c xs) : Rd w w.heap.size A n xs := by
  refine ⟨h.len, fun hn => ?_⟩
  obtain ⟨g, cap, hv, _, hlt⟩ := World.ownsRow.form h hn
  have hA : A = some ⟨g, 0, none⟩ := by injection hv
  subst hA
  refine ⟨g, 0, rfl, hlt, fun i x hx => ?_⟩
  have hcap : c = cap := by injection hv
  have hi : i < n := by
    have h1 := h.len
    have h2 := (List.getElem?_eq_some_iff.1 hx).1
    omega
  have := World.ownsRow.cellAt h i (by omega)
  rw [Nat.zero_add, this, List.getElem?_map, hx]; rfl
theorem Ow.form (h : Ow w base A n c xs) (hn : 0 < n) : ∃ g, A = some ⟨g, 0, none⟩ ∧ base ≤ g ∧ g < w.heap.size ∧ n ≤ c := by
  obtain ⟨g, cap, hv, hb, hlt⟩ := World.ownsRow.form h hn
  have hA : A = some ⟨g, 0, none⟩ := by injection hv
  subst hA
  refine ⟨g, rfl, hb, hlt, ?_⟩
  rcases h.2 with ⟨e, _⟩ | ⟨_, _, _, e, _, _, hle, _⟩
  · cases e
  · injection e with _ _ e3; omega
theorem Ow.cap (h : Ow w base A n c xs) : n ≤ c := by
  rcases h.2 with ⟨e, h0⟩ | ⟨_, _, _, e, _, _, hle, _⟩
  · omega
  · injection e with _ _ e3; omega
theorem Ow.alloc (h : Ow w base A n c xs) (o : Obj) : Ow (w.alloc o) base A n c xs := World.ownsRow.alloc h o
theorem Ow.drew (h : Ow w base A n c xs) : Ow w.drew base A n c xs := h
theorem Ow.drewN (h : Ow w base A n c xs) (k : Nat) : Ow (w.drewN k) base A n c xs := h
theorem Ow.lower (h : Ow w base A n c xs) {base' : Nat} (hb : base' ≤ base) : Ow w base' A n c xs := by
  refine ⟨h.1, ?_⟩
  rcases h.2 with h2 | ⟨g, cap, cur, e, hg, r⟩
  · exact .inl h2
  · exact .inr ⟨g, cap, cur, e, by omega, r⟩
/-- What is owned stays so where its own block is as it was. -/
theorem Ow.keep (h : Ow w base A n c xs) (hk : ∀ b, A = some ⟨b, 0, none⟩ → w'.heap[b]? = w.heap[b]?) : Ow w' base A n c xs := by
  refine ⟨h.1, ?_⟩
  rcases h.2 with h2 | ⟨g, cap, cur, e, hg, hh, r⟩
  · exact .inl h2
  · refine .inr ⟨g, cap, cur, e, hg, ?_, r⟩
    rw [hk g (by injection e)]; exact hh
theorem Ow.below (h : Ow w base A n c xs) {K : Nat} (hb : Below K w w') (hK : w.heap.size ≤ K) : Ow w' base A n c xs :=
  h.keep fun b e => hb.block b (by have := (h.lt b 0 none e).2; omega)
theorem Ow.setOther (h : Ow w base A n c xs) {p : Addr} (hp : ∀ b, A = some ⟨b, 0, none⟩ → b ≠ p.block) (u : Value) : Ow (w.setCell p u) base A n c xs :=
  h.keep fun b e => Below.heap_setCell w p u b (hp b e)
theorem Ow.frozen {g : Nat} (h : Ow w base (some ⟨g, 0, none⟩) n c xs) (j : Nat) : w.frozen? ⟨g, j, none⟩ = false := by
  have hc : w.ownsRow base 3 1 (.slice (some ⟨g, 0, none⟩) n c) n (xs.map (Value.int .i64)) := h
  exact World.ownsRow.frozenAt hc j
theorem Ow.cell {g : Nat} (h : Ow w base (some ⟨g, 0, none⟩) n c xs) {j : Nat} {x : Int} (hj : xs[j]? = some x) : w.cell? ⟨g, j, none⟩ = some (.int .i64 x) := by
  have hi : j < n := by
    have h1 := h.len
    have h2 := (List.getElem?_eq_some_iff.1 hj).1
    omega
  have := World.ownsRow.cellAt h j (by omega)
  rw [this, List.getElem?_map, hj]; rfl
theorem Ow.stored {g : Nat} (h : Ow w base (some ⟨g, 0, none⟩) n c xs) (j : Nat) (x : Int) : Ow (w.setCell ⟨g, j, none⟩ (.int .i64 x)) base (some ⟨g, 0, none⟩) n c (xs.set j x) := by
  have := (World.ownsRow.stored h j (.int .i64 x)).1
  unfold Ow
  rw [List.map_set]; exact this
end

theorem below_drewN {B : Nat} {a w : World} (h : Below B a w) (n : Nat) : Below B a (w.drewN n) := ⟨h.os, h.tape, h.output, h.size, h.block⟩
theorem getD_some (xs : List Int) (k : Nat) (h : k < xs.length) : ∃ x, xs[k]? = some x := ⟨xs[k], List.getElem?_eq_getElem h⟩

theorem Tryd.infoI : (Tryd.prog.info? 3).map (fun i => (i.zero, i.size, i.bytes)) = some (some (.int .i64 0), 1, 8) := by kernel_rfl

/-- 'append(out, x)': one int, onto a row of the call's own. -/
theorem app1 {ops : Array Oper} {rest : List Oper} {o : Oper} {a : Act} {Q : Exit → Act → World → Prop} (hgd : o.guard = none) (s x : Operand)
    (ho : o.op = .call { callee := .builtin .append, args := #[s, x], argTypes := #[23, 23] })
    (w : World) (base : Nat) (A : Option Addr) (n c : Nat) (xs : List Int) (v : Int)
    (hs : a.eval s = .slice A n c) (hx : a.eval x = .slice (some ⟨w.heap.size, 0, none⟩) 1 1) (hown : Ow w base A n c xs) (hlen : n ≤ 1000000) (hbase : base ≤ w.heap.size)
    (h : ∀ g c' w', Ow w' base (some ⟨g, 0, none⟩) (n + 1) c' (xs ++ [v]) → w.grownBy w' (A.map (·.block)) → Below base w w' → (A.map (·.block) = some g ∨ w.heap.size ≤ g) → n + 1 ≤ c' → wpList Tryd.prog ops Q rest (a.put o.dst (.slice (some ⟨g, 0, none⟩) (n + 1) c')) w') :
    wpList Tryd.prog ops Q (o :: rest) a (w.alloc (.cells #[.int .i64 v] 3)) := by
  obtain ⟨i0, hi, hz0, hz1, hz2⟩ := info_parts Tryd.infoI
  refine wpList_append_lies _ hgd s x 23 ho base 3 i0 (.int .i64 0) 1 8 Tryd.underlying23 hi hz0 hz1 hz2 rfl (by decide) (.slice A n c) n (xs.map (Value.int .i64)) hs (World.ownsRow.alloc hown _)
    ⟨w.heap.size, 0, none⟩ 1 1 [.int .i64 v] hx rfl (cell_one_new _ _ _) (by intro u hu; simp at hu; subst hu; rfl) (by omega) (by unfold maxLen; omega) (by omega) (by simp; omega) (w.heap.size + 1) (by simp) ?_
  intro g cap w1 ho1 hg1 hat hlt
  have e : Value.ownBlock (.slice A n c) = A.map (·.block) := by cases A <;> rfl
  rw [e] at hg1 hat
  have hgr : w.grownBy w1 (A.map (·.block)) := (World.grownBy_alloc w _ _).trans hg1
  have hbel : Below base w w1 := (Below.refl _ _).grown hgr hbase (fun k hk => by
    cases A with
    | none => cases hk
    | some ad =>
      simp at hk
      obtain ⟨b, oo, sp⟩ := ad
      have := (hown.lt b oo sp rfl).1
      simp at hk; omega)
  have ho2 : Ow w1 base (some ⟨g, 0, none⟩) (n + 1) cap (xs ++ [v]) := by unfold Ow; rw [List.map_append]; exact ho1
  refine h g cap w1 ho2 hgr hbel ?_ ho2.cap
  rcases hat with hat | hat
  · exact .inl hat
  · exact .inr (by omega)

theorem ownBlock_slice (A : Option Addr) (n c : Nat) : Value.ownBlock (.slice A n c) = A.map (·.block) := by cases A <;> rfl
theorem own_below {w w1 : World} {base n c : Nat} {A : Option Addr} {xs : List Int} (hown : Ow w base A n c xs) (hgr : w.grownBy w1 (A.map (·.block))) (hbase : base ≤ w.heap.size) : Below base w w1 :=
  (Below.refl _ _).grown hgr hbase (fun k hk => by
    cases A with
    | none => cases hk
    | some ad =>
      simp at hk
      obtain ⟨b, oo, sp⟩ := ad
      have := (hown.lt b oo sp rfl).1
      simp at hk; omega)
theorem own_slice {w : World} {base e size n : Nat} {v : Value} {xs : List Value} (h : w.ownsRow base e size v n xs) : ∃ A c, v = .slice A n c := by
  rcases h.2 with ⟨rfl, rfl⟩ | ⟨g, cap, cur, rfl, _⟩
  · exact ⟨_, _, rfl⟩
  · exact ⟨_, _, rfl⟩

theorem run_append_of_nil {P : Program} (w : World) (base : Nat) (t ty e : TypeId) (i : TypeInfo) (size : Nat) (ht : P.underlying t = some (.slice e)) (hi : P.info? e = some i)
    (v : Value) (n : Nat) (xs : List Value) (hown : w.ownsRow base e size v n xs) (c : Nat) : (Builtin.append_ #[t, t] ty #[v, .slice none 0 c]).run P w = .ok v w := by
  rcases hown.2 with ⟨rfl, rfl⟩ | ⟨g, cap, cur, rfl, _, _, hnc, _⟩
  · simp [Builtin.append_, run_underlying ht, sizeOf, typeInfo, hi, Builtin.lenOf, Builtin.firstCells]
  · simp [Builtin.append_, run_underlying ht, sizeOf, typeInfo, hi, Builtin.lenOf, Builtin.firstCells, hnc, storeCells]

/-- 'append(out, src...)': ints, onto a row of the call's own, from whatever slice reads as ys. -/
theorem appS {ops : Array Oper} {rest : List Oper} {o : Oper} {a : Act} {Q : Exit → Act → World → Prop} (hgd : o.guard = none) (s x : Operand)
    (ho : o.op = .call { callee := .builtin .append, args := #[s, x], argTypes := #[23, 23] })
    (w : World) (base : Nat) (A : Option Addr) (n c : Nat) (xs : List Int) (D : Option Addr) (m d K : Nat) (ys : List Int)
    (hs : a.eval s = .slice A n c) (hx : a.eval x = .slice D m d) (hown : Ow w base A n c xs) (hr : Rd w K D m ys) (hlen : n + m ≤ 1000000) (hbase : base ≤ w.heap.size)
    (h : ∀ A' c' w', Ow w' base A' (n + m) c' (xs ++ ys) → w.grownBy w' (A.map (·.block)) → Below base w w' → (A'.map (·.block) = A.map (·.block) ∨ A'.map (·.block) = some w.heap.size) → n + m ≤ c' → wpList Tryd.prog ops Q rest (a.put o.dst (.slice A' (n + m) c')) w') :
    wpList Tryd.prog ops Q (o :: rest) a w := by
  obtain ⟨i0, hi, hz0, hz1, hz2⟩ := info_parts Tryd.infoI
  have key : ∃ v' w', (Builtin.append_ #[23, 23] o.type #[.slice A n c, .slice D m d]).run Tryd.prog w = .ok v' w' ∧ w'.ownsRow base 3 1 v' (n + m) (xs.map (Value.int .i64) ++ ys.map (Value.int .i64)) ∧ w.grownBy w' (A.map (·.block)) ∧
      (v'.ownBlock = A.map (·.block) ∨ v'.ownBlock = some w.heap.size) := by
    rcases D with _ | ad
    · have hm : m = 0 := by
        rcases Nat.eq_zero_or_pos m with h0 | h0
        · exact h0
        · obtain ⟨_, _, h, _⟩ := hr.2 h0
          cases h
      subst hm
      have hn : ys = [] := List.eq_nil_of_length_eq_zero hr.1
      subst hn
      exact ⟨_, w, run_append_of_nil w base 23 _ 3 i0 1 Tryd.underlying23 hi _ n _ hown d, by simpa [Ow] using hown, World.grownBy.refl w _, .inl (ownBlock_slice _ _ _)⟩
    · have hcells : ∀ j u, (ys.map (Value.int .i64))[j]? = some u → w.cell? (ad.add j) = some u := by
        intro j u hu
        rw [List.getElem?_map] at hu
        obtain ⟨y, hy, rfl⟩ := Option.map_eq_some_iff.1 hu
        have hpos : 0 < m := by have := hr.1; have := (List.getElem?_eq_some_iff.1 hy).1; omega
        obtain ⟨b, o, e, _, hc⟩ := hr.2 hpos
        have e := Option.some.inj e
        subst e
        have := hc j y hy
        rw [← this]
        unfold Addr.add
        split
        · rename_i h0; subst h0; rfl
        · rfl
      obtain ⟨v', w', hrun, h2, h3, _, h5⟩ := run_append_own_at (P := Tryd.prog) w base 23 o.type 3 i0 (.int .i64 0) 1 8 Tryd.underlying23 hi hz0 hz1 hz2 rfl (by omega) (.slice A n c) n _ hown ad m d _ (by rw [List.length_map, hr.1]; omega) hcells (ints_oneCell _ _) (by unfold maxLen; omega) (by omega) hbase
      rw [ownBlock_slice] at h3 h5
      exact ⟨v', w', hrun, h2, h3, h5⟩
  obtain ⟨v', w', hrun, h2, h3, h4⟩ := key
  obtain ⟨A', c', rfl⟩ := own_slice h2
  rw [ownBlock_slice] at h4
  have ho2 : Ow w' base A' (n + m) c' (xs ++ ys) := by unfold Ow; rw [List.map_append]; exact h2
  refine wpList_plain hgd fun K hK => ?_
  unfold Oper.wp execOp
  simp only [ho, resolve, invoke, builtin, Sem.run_bind, Sem.run_pure, Result.andThen_ok, List.map_toArray, List.map_cons, List.map_nil, hs, hx, hrun]
  exact hK _ _ (h A' c' w' ho2 h3 (own_below hown h3 hbase) h4 ho2.cap)

/-- 'make([]int, n)': n zeros, the call's own. -/
theorem mkI {ops : Array Oper} {rest : List Oper} {o : Oper} {a : Act} {Q : Exit → Act → World → Prop} (hg : o.guard = none) (l c : Operand) (hop : o.op = Op.makeSlice 23 l c)
    (w : World) (base n : Nat) (L C : Int) (hl : a.eval l = .int .i64 L) (hc : a.eval c = .int .i64 C) (hL : L = (n : Int)) (hC : C = (n : Int)) (hn : n ≤ 1000000) (hb : base ≤ w.heap.size)
    (hK : ∀ w', Ow w' base (some ⟨w.heap.size, 0, none⟩) n n (List.replicate n 0) → Below w.heap.size w w' → w.heap.size < w'.heap.size → wpList Tryd.prog ops Q rest (a.put o.dst (.slice (some ⟨w.heap.size, 0, none⟩) n n)) w') :
    wpList Tryd.prog ops Q (o :: rest) a w := by
  obtain ⟨i0, hi, hz0, hz1, hz2⟩ := info_parts Tryd.infoI
  refine wpList_make_full w hg l c 23 hop base 3 i0 (.int .i64 0) 1 Tryd.underlying23 hi hz0 hz1 .i64 .i64 L C n hl hc hL hC (by rw [hz2]; omega) (by unfold maxLen; omega) hb ?_
  intro w' ho hgr
  have ho2 : Ow w' base (some ⟨w.heap.size, 0, none⟩) n n (List.replicate n 0) := by
    unfold Ow
    have e : (madeCells (Value.int .i64 0).cells (n * 1)).toList = (List.replicate n (0 : Int)).map (Value.int .i64) := by
      rw [show (Value.int .i64 0).cells = #[Value.int .i64 0] from rfl, toList_madeCells_one, List.map_replicate, Nat.mul_one]
    rw [← e]; exact ho
  exact hK w' ho2 ((Below.refl _ _).grown hgr (Nat.le_refl _) (fun k hk => by cases hk)) (ho2.lt _ _ _ rfl).2

/-- 'make([]int, 0, n)': nothing yet, the call's own. -/
theorem mkI0 {ops : Array Oper} {rest : List Oper} {o : Oper} {a : Act} {Q : Exit → Act → World → Prop} (hg : o.guard = none) (l c : Operand) (hop : o.op = Op.makeSlice 23 l c)
    (w : World) (base n : Nat) (C : Int) (hl : a.eval l = .int .i64 0) (hc : a.eval c = .int .i64 C) (hC : C = (n : Int)) (hn : n ≤ 1000000) (hb : base ≤ w.heap.size)
    (hK : ∀ w', Ow w' base (some ⟨w.heap.size, 0, none⟩) 0 n [] → Below w.heap.size w w' → w.heap.size < w'.heap.size → wpList Tryd.prog ops Q rest (a.put o.dst (.slice (some ⟨w.heap.size, 0, none⟩) 0 n)) w') :
    wpList Tryd.prog ops Q (o :: rest) a w := by
  obtain ⟨i0, hi, hz0, hz1, hz2⟩ := info_parts Tryd.infoI
  refine wpList_make_own w hg l c 23 hop base 3 i0 (.int .i64 0) 1 Tryd.underlying23 hi hz0 hz1 .i64 .i64 C n hl hc hC (by rw [hz2]; omega) (by unfold maxLen; omega) hb ?_
  intro w' ho hgr
  have ho2 : Ow w' base (some ⟨w.heap.size, 0, none⟩) 0 n [] := ho
  exact hK w' ho2 ((Below.refl _ _).grown hgr (Nat.le_refl _) (fun k hk => by cases hk)) (ho2.lt _ _ _ rfl).2

/-- For calls in a region that draws its order: a callee that leaves the world as it was. -/
theorem quiet_left {P : Program} {f : FuncId} {args : Array Value} {w : World} {n : Nat} {v : Value}
    (h : Calls P f args (w.drewN n) fun e w' => e = .returned v ∧ w.drewN n = w') : Calls P f args (w.drewN n) fun e w'' => e = .returned v ∧ ∃ m, w'' = w.drewN m :=
  h.mono fun _ _ ⟨he, hm⟩ => ⟨he, n, hm.symm⟩
theorem grownBy_drewN {a w : World} {row : Option Nat} (h : a.grownBy w row) (n : Nat) : a.grownBy (w.drewN n) row := ⟨h.os, h.tape, h.output, h.size, h.block⟩
theorem grownBy_set {a w : World} {g : Nat} (h : a.grownBy w (some g)) (j : Nat) (u : Value) : a.grownBy (w.setCell ⟨g, j, none⟩ u) (some g) :=
  ⟨h.os, h.tape, h.output, by simpa [World.setCell] using h.size, fun i hi hne => (Below.heap_setCell w ⟨g, j, none⟩ u i (by
    rintro rfl
    exact hne rfl)).trans (h.block i hi hne)⟩

end Go.Proofs.YtgcmedkaadagmaaDoor.S6
