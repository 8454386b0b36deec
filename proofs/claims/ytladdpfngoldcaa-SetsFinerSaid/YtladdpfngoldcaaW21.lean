/- Walks: appends of slices, of which there may be many; words for SetsFiner. -/
import Derived.Test.YtladdpfngoldcaaW20
import Derived.Deep.RegionHeld3
import Derived.Deep.DrawnRows
namespace Go.Proofs.Ytladdpfngoldcaa
open Go.RowKit

def isSl (u : Value) : Prop := ∃ A n c, u = .slice A n c
/-- A row of slices is read: the slices themselves. -/
def RdV (w : World) (B : Nat) (A : Option Addr) (n : Nat) (us : List Value) : Prop :=
  us.length = n ∧ (∀ u ∈ us, isSl u) ∧ (0 < n → ∃ b o, A = some ⟨b, o, none⟩ ∧ b < B ∧ ∀ (i : Nat) (u : Value), us[i]? = some u → w.cell? ⟨b, o + i, none⟩ = some u)
theorem RdV.below {w w' : World} {B n : Nat} {A : Option Addr} {us : List Value} (h : RdV w B A n us) (hb : Below B w w') : RdV w' B A n us :=
  ⟨h.1, h.2.1, fun hn => by
    obtain ⟨b, o, e, hB, hc⟩ := h.2.2 hn
    exact ⟨b, o, e, hB, fun i u hu => (hb.cell hB).trans (hc i u hu)⟩⟩
theorem RdV.more {w : World} {B B' n : Nat} {A : Option Addr} {us : List Value} (h : RdV w B A n us) (hB : B ≤ B') : RdV w B' A n us :=
  ⟨h.1, h.2.1, fun hn => by
    obtain ⟨b, o, e, hb, hc⟩ := h.2.2 hn
    exact ⟨b, o, e, by omega, hc⟩⟩
theorem RdV.call {w w' : World} {B n : Nat} {A : Option Addr} {us : List Value} (h : RdV w B A n us) (hB : B ≤ w.heap.size) (k : Below w.heap.size w w') : RdV w' w'.heap.size A n us := (h.below (k.mono hB)).more (Nat.le_trans hB k.size)
theorem RdV.lit {w : World} {n : Nat} {A : Option Addr} {us : List Value} (h : RdV w w.heap.size A n us) (o : Obj) : RdV (w.alloc o) (w.alloc o).heap.size A n us :=
  (h.below ((Below.refl _ _).alloc (Nat.le_refl _) o)).more (by simp)
theorem sls_sl {w : World} {g : Nat} {vs : List Value} {yss : List (List Int)} (h : Sls w g vs yss) : ∀ u ∈ vs, isSl u := by
  intro u hu
  obtain ⟨i, hi⟩ := List.getElem?_of_mem hu
  have hl := (List.getElem?_eq_some_iff.1 hi).1
  obtain ⟨A, n, c, e, _⟩ := h.2 i u _ hi (List.getElem?_eq_getElem (by rw [← h.1]; exact hl))
  exact ⟨A, n, c, e⟩
theorem OwV.rd {w : World} {base n c : Nat} {A : Option Addr} {vs : List Value} (h : OwV w base A n c vs) (hs : ∀ u ∈ vs, isSl u) : RdV w w.heap.size A n vs := by
  refine ⟨h.len, hs, fun hn => ?_⟩
  have h' : w.ownsRow base 22 1 (.slice A n c) n vs := h
  obtain ⟨g, cap, hv, _, hlt⟩ := World.ownsRow.form h' hn
  have hA : A = some ⟨g, 0, none⟩ := by injection hv
  subst hA
  exact ⟨g, 0, rfl, hlt, fun i u hu => by rw [Nat.zero_add]; exact h.cell hu⟩
theorem OwV.form {w : World} {base n c : Nat} {A : Option Addr} {vs : List Value} (h : OwV w base A n c vs) (hn : 0 < n) : ∃ g, A = some ⟨g, 0, none⟩ := by
  have h' : w.ownsRow base 22 1 (.slice A n c) n vs := h
  obtain ⟨g, cap, hv, _, _⟩ := World.ownsRow.form h' hn
  exact ⟨g, by injection hv⟩
theorem rdv_lit (w : World) (us : List Value) (hs : ∀ u ∈ us, isSl u) (n : Nat) (hn : us.length = n) : RdV (w.alloc (.cells us.toArray 22)) (w.alloc (.cells us.toArray 22)).heap.size (some ⟨w.heap.size, 0, none⟩) n us :=
  ⟨hn, hs, fun _ => ⟨w.heap.size, 0, rfl, by simp, fun i u hu => by rw [Nat.zero_add, cell_new]; simpa using hu⟩⟩

theorem appV_run (ty : TypeId) (w : World) (base : Nat) (A : Option Addr) (n c : Nat) (vs : List Value) (D : Option Addr) (m d K : Nat) (us : List Value)
    (hown : OwV w base A n c vs) (hr : RdV w K D m us) (hlen : n + m ≤ 1000000) (hbase : base ≤ w.heap.size) :
    ∃ A' c' w', (Builtin.append_ #[37, 37] ty #[.slice A n c, .slice D m d]).run Try.prog w = .ok (.slice A' (n + m) c') w' ∧ OwV w' base A' (n + m) c' (vs ++ us) ∧ w.grownBy w' (A.map (·.block)) ∧ Below base w w' ∧
      (A'.map (·.block) = A.map (·.block) ∨ A'.map (·.block) = some w.heap.size) := by
  obtain ⟨i0, hi, hz0, hz1, hz2⟩ := info_parts info22
  have key : ∃ v' w', (Builtin.append_ #[37, 37] ty #[.slice A n c, .slice D m d]).run Try.prog w = .ok v' w' ∧ w'.ownsRow base 22 1 v' (n + m) (vs ++ us) ∧ w.grownBy w' (A.map (·.block)) ∧
      (v'.ownBlock = A.map (·.block) ∨ v'.ownBlock = some w.heap.size) := by
    rcases D with _ | ad
    · have hm : m = 0 := by
        rcases Nat.eq_zero_or_pos m with h0 | h0
        · exact h0
        · obtain ⟨_, _, h, _⟩ := hr.2.2 h0
          cases h
      subst hm
      have hn : us = [] := List.eq_nil_of_length_eq_zero hr.1
      subst hn
      exact ⟨_, w, run_append_of_nil w base 37 _ 22 i0 1 Try.underlying37 hi _ n _ hown d, by simpa [OwV] using hown, World.grownBy.refl w _, .inl (ownBlock_slice _ _ _)⟩
    · have hcells : ∀ j u, us[j]? = some u → w.cell? (ad.add j) = some u := by
        intro j u hu
        have hpos : 0 < m := by have := hr.1; have := (List.getElem?_eq_some_iff.1 hu).1; omega
        obtain ⟨b, o, e, _, hc⟩ := hr.2.2 hpos
        injection e with e
        subst e
        have := hc j u hu
        rw [← this]
        unfold Addr.add
        split
        · rename_i h0; subst h0; rfl
        · rfl
      have hone : ∀ u ∈ us, u.oneCell' = true := fun u hu => by obtain ⟨A, n, c, rfl⟩ := hr.2.1 u hu; rfl
      obtain ⟨v', w', hrun, h2, h3, _, h5⟩ := run_append_own_at (P := Try.prog) w base 37 ty 22 i0 (.slice none 0 0) 1 24 Try.underlying37 hi hz0 hz1 hz2 rfl (by omega) (.slice A n c) n _ hown ad m d us (by rw [hr.1]; omega) hcells hone (by unfold maxLen; omega) (by omega) hbase
      rw [ownBlock_slice] at h3 h5
      exact ⟨v', w', hrun, h2, h3, h5⟩
  obtain ⟨v', w', hrun, h2, h3, h4⟩ := key
  obtain ⟨A', c', rfl⟩ := own_slice h2
  rw [ownBlock_slice] at h4
  exact ⟨A', c', w', hrun, h2, h3, ownV_below hown h3 hbase, h4⟩
theorem appV {ops : Array Oper} {rest : List Oper} {o : Oper} {a : Act} {Q : Exit → Act → World → Prop} (hgd : o.guard = none) (s x : Operand)
    (ho : o.op = .call { callee := .builtin .append, args := #[s, x], argTypes := #[37, 37] })
    (w : World) (base : Nat) (A : Option Addr) (n c : Nat) (vs : List Value) (D : Option Addr) (m d L : Nat) (us : List Value)
    (hs : a.eval s = .slice A n c) (hx : a.eval x = .slice D m d) (hown : OwV w base A n c vs) (hr : RdV w L D m us) (hlen : n + m ≤ 1000000) (hbase : base ≤ w.heap.size)
    (h : ∀ A' c' w', OwV w' base A' (n + m) c' (vs ++ us) → w.grownBy w' (A.map (·.block)) → Below base w w' → (A'.map (·.block) = A.map (·.block) ∨ A'.map (·.block) = some w.heap.size) → wpList Try.prog ops Q rest (a.put o.dst (.slice A' (n + m) c')) w') :
    wpList Try.prog ops Q (o :: rest) a w := by
  obtain ⟨A', c', w', hrun, h1, h2, h3, h4⟩ := appV_run o.type w base A n c vs D m d L us hown hr hlen hbase
  refine wpList_plain hgd fun K hK => ?_
  unfold Oper.wp execOp
  simp only [ho, resolve, invoke, builtin, Sem.run_bind, Sem.run_pure, Result.andThen_ok, List.map_toArray, List.map_cons, List.map_nil, hs, hx, hrun]
  exact hK _ _ (h A' c' w' h1 h2 h3 h4)
theorem step_appV {ops : Array Oper} {o : Oper} {a : Act} {K : Act → World → Prop} {Q : Exit → Act → World → Prop} {E : Prop} (hw : Region.wanted o (yielded ops a.tmps) = true) (s x : Operand)
    (ho : o.op = .call { callee := .builtin .append, args := #[s, x], argTypes := #[37, 37] })
    (w : World) (base : Nat) (A : Option Addr) (n c : Nat) (vs : List Value) (D : Option Addr) (m d L : Nat) (us : List Value)
    (hs : a.eval s = .slice A n c) (hx : a.eval x = .slice D m d) (hown : OwV w base A n c vs) (hr : RdV w L D m us) (hlen : n + m ≤ 1000000) (hbase : base ≤ w.heap.size)
    (h : ∀ A' c' w', OwV w' base A' (n + m) c' (vs ++ us) → w.grownBy w' (A.map (·.block)) → Below base w w' → (A'.map (·.block) = A.map (·.block) ∨ A'.map (·.block) = some w.heap.size) → K (a.put o.dst (.slice A' (n + m) c')) w') :
    if Region.wanted o (yielded ops a.tmps) = true then Oper.wp Try.prog o a w K Q else E := by
  obtain ⟨A', c', w', hrun, h1, h2, h3, h4⟩ := appV_run o.type w base A n c vs D m d L us hown hr hlen hbase
  rw [if_pos hw]
  unfold Oper.wp execOp
  simp only [ho, resolve, invoke, builtin, Sem.run_bind, Sem.run_pure, Result.andThen_ok, List.map_toArray, List.map_cons, List.map_nil, hs, hx, hrun]
  exact h A' c' w' h1 h2 h3 h4

/-- What is read stays apart from a block that comes later. -/
theorem SlA.fresh {w : World} {g g' : Nat} {v : Value} {xs : List Int} (h : SlA w g v xs) (hg : w.heap.size ≤ g') : SlA w g' v xs := by
  obtain ⟨A, n, c, h1, h2, h3, h4, h5⟩ := h
  refine ⟨A, n, c, h1, h2, h3, h4, fun hn b o e => ?_⟩
  obtain ⟨b', o', e', hb', _⟩ := h2.pos hn
  rw [e] at e'; injection e' with e'; injection e' with e1 e2; omega
theorem Sls.fresh {w : World} {g g' : Nat} {vs : List Value} {yss : List (List Int)} (h : Sls w g vs yss) (hg : w.heap.size ≤ g') : Sls w g' vs yss := ⟨h.1, fun i v ys h1 h2 => (h.2 i v ys h1 h2).fresh hg⟩
theorem SlA.lit {w : World} {g : Nat} {v : Value} {xs : List Int} (h : SlA w g v xs) (o : Obj) : SlA (w.alloc o) g v xs := h.call ((Below.refl _ _).alloc (Nat.le_refl _) o)
theorem Sls.app {w : World} {g : Nat} {vs us : List Value} {yss zss : List (List Int)} (h : Sls w g vs yss) (k : Sls w g us zss) : Sls w g (vs ++ us) (yss ++ zss) := by
  refine ⟨by simp [h.1, k.1], fun i u zs h1 h2 => ?_⟩
  rcases Nat.lt_or_ge i vs.length with hl | hl
  · rw [List.getElem?_append_left hl] at h1
    rw [List.getElem?_append_left (by rw [← h.1]; exact hl)] at h2
    exact h.2 i u zs h1 h2
  · rw [List.getElem?_append_right hl] at h1
    rw [List.getElem?_append_right (by rw [← h.1]; exact hl), ← h.1] at h2
    exact k.2 _ u zs h1 h2
theorem Sls.grow {w w' : World} {g g' : Nat} {vs : List Value} {yss : List (List Int)} (h : Sls w g vs yss) (hg : w.grownBy w' (some g)) (hat : some g = some g' ∨ w.heap.size ≤ g') : Sls w' g' vs yss := ⟨h.1, fun i v ys h1 h2 => (h.2 i v ys h1 h2).grow hg hat⟩

-- the plain law
theorem sig_app (xss zss : List (List Int)) (i j : Nat) : sig (xss ++ zss) i = sig (xss ++ zss) j ↔ sig xss i = sig xss j ∧ sig zss i = sig zss j := by
  simp [sig_eq, or_imp, forall_and]
theorem finer_more (yss : List (List Int)) (x : List Int) (i j : Nat) (h : classOf (sig (yss ++ [x])) i = classOf (sig (yss ++ [x])) j) : classOf (sig yss) i = classOf (sig yss) j := by
  rw [class_eq] at h ⊢
  exact ((sig_app _ _ _ _).1 h).1
def upto (n : Nat) : List Int := (List.range n).map (fun (k : Nat) => (k : Int))
theorem upto_succ (n : Nat) : upto (n + 1) = upto n ++ [(n : Int)] := by simp [upto, List.range_succ]
theorem mem_upto (n i : Nat) : (i : Int) ∈ upto n ↔ i < n := by
  unfold upto
  rw [List.mem_map]
  constructor
  · rintro ⟨a, h1, h2⟩; have := List.mem_range.1 h1; omega
  · intro h; exact ⟨i, List.mem_range.2 h, rfl⟩
theorem finer_same (yss : List (List Int)) (n : Nat) : partL (yss ++ [upto n, []]) n = partL yss n := by
  refine partF_congr fun i j hi hj => ?_
  rw [sig_app]
  constructor
  · exact fun h => h.1
  · intro h
    refine ⟨h, ?_⟩
    rw [sig_eq]
    intro xs hx
    simp at hx
    rcases hx with rfl | rfl
    · rw [mem_upto, mem_upto]; exact ⟨fun _ => hj, fun _ => hi⟩
    · simp
def dbl (yss : List (List Int)) (k : Nat) : List (List Int) := ((yss.drop k).reverse).flatMap fun y => [y, y]
theorem dbl_mem (yss : List (List Int)) (y : List Int) : y ∈ dbl yss 0 ↔ y ∈ yss := by
  unfold dbl; simp [List.mem_flatMap]
theorem dbl_step {yss : List (List Int)} {k : Nat} {y : List Int} (h : yss[k]? = some y) : dbl yss k = dbl yss (k + 1) ++ [y, y] := by
  unfold dbl
  obtain ⟨hl, rfl⟩ := List.getElem?_eq_some_iff.1 h
  rw [List.drop_eq_getElem_cons hl, List.reverse_cons, List.flatMap_append]
  simp
theorem dbl_end (yss : List (List Int)) : dbl yss yss.length = [] := by unfold dbl; simp
theorem finer_turned (yss : List (List Int)) (n : Nat) : partL (dbl yss 0) n = partL yss n := by
  refine partF_congr fun i j _ _ => ?_
  rw [sig_eq, sig_eq]
  exact ⟨fun h xs hx => h xs ((dbl_mem _ _).2 hx), fun h xs hx => h xs ((dbl_mem _ _).1 hx)⟩

end Go.Proofs.Ytladdpfngoldcaa
