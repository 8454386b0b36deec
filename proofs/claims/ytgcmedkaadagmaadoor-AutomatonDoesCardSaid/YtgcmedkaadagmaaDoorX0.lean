/- Words: the document's states, in memory. -/
import Derived.Test.YtgcmedkaadagmaaDoorQ7
import Derived.Test.YtgcmedkaadagmaaDoorL8
import Derived.Test.YtgcmedkaadagmaaDoorB3
namespace Go.Proofs.YtgcmedkaadagmaaDoor
open Go.RowKit Go.Shelf Go.Maps

theorem elt_state : ElT 185 183 2 32 (.agg #[.int .i64 0, .slice none 0 0]) := ⟨Tryd.underlying185, by kernel_rfl, rfl, by decide, by decide⟩
def gls (l : List Nat) : List Int := l.map fun (n : Nat) => (n : Int)
theorem gls_len (l : List Nat) : (gls l).length = l.length := by simp [gls]
theorem gls_at {l : List Nat} {i : Nat} {x : Nat} (h : l[i]? = some x) : (gls l)[i]? = some (x : Int) := by unfold gls; rw [List.getElem?_map, h]; rfl
theorem gls_inj {a b : List Nat} (h : gls a = gls b) : a = b := by
 unfold gls at h
 exact (List.map_inj_right (fun x y e => Int.ofNat.inj e)).1 h
theorem gls_app (a b : List Nat) : gls (a ++ b) = gls a ++ gls b := by simp [gls]
def ESt (w : World) (S : Nat → Prop) (cs : List Value) (s : Nat × List Nat) : Prop := ∃ A n c, cs = [.int .i64 (s.1 : Int), .slice A n c] ∧ Rd w S A n (gls s.2) ∧ Hd n c
theorem em_st : EMono 2 ESt := ⟨fun ⟨A, n, c, e, h1, h2⟩ hS hk => ⟨A, n, c, e, h1.mono hS hk, h2⟩, fun ⟨_, _, _, e, _⟩ => by rw [e]; rfl, by omega⟩
theorem ESt.call {w w' : World} {cs : List Value} {s : Nat × List Nat} (h : ESt w (lo w.heap.size) cs s) (k : Below w.heap.size w w') : ESt w' (lo w'.heap.size) cs s := em_st.mono h (lo_mono k.size) (kept_below k)
def RdS (w : World) (S : Nat → Prop) (A : Option Addr) (n : Nat) (ss : List (Nat × List Nat)) : Prop := SlE 2 (ESt w S) w S A n ss
theorem RdS.call {w w' : World} {A : Option Addr} {n : Nat} {ss : List (Nat × List Nat)} (h : RdS w (lo w.heap.size) A n ss) (k : Below w.heap.size w w') : RdS w' (lo w'.heap.size) A n ss := SlE.mono h (lo_mono k.size) (kept_below k) fun _ _ hx => em_st.mono hx (lo_mono k.size) (kept_below k)
theorem est_one {w : World} {S : Nat → Prop} : ∀ cs x, ESt w S cs x → ∀ u ∈ cs, u.oneCell' = true := fun cs x ⟨A, n, c, e, _⟩ u hu => by
 rw [e] at hu; simp at hu; rcases hu with rfl | rfl <;> rfl
/-- What a function that gives a state leaves. -/
def StatR (w : World) (s : Nat × List Nat) (e : Ending) (w' : World) : Prop := ∃ A n c, e = .returned (.agg #[.int .i64 (s.1 : Int), .slice A n c]) ∧ Rd w' (fun b => w.heap.size ≤ b ∧ b < w'.heap.size) A n (gls s.2) ∧ Hd n c ∧ Below w.heap.size w w'
/-- A row in the making, beside which something else grows. -/
theorem MkG.other {α : Type} {e k : Nat} {E : World → (Nat → Prop) → List Value → α → Prop} {w W W' : World} {D : Nat → Prop} {A : Option Addr} {n c : Nat} {css : List (List Value)} {xs : List α} (hE : EMono k E) (h : MkG e k E w W D A n c css xs) {row : Option Nat} (hg : W.grownBy W' row) (h1 : ∀ b, row = some b → A.map (·.block) ≠ some b ∧ ¬ D b ∧ w.heap.size ≤ b) : MkG e k E w W' D A n c css xs := by
 have hb : Below w.heap.size w W' := h.bl.grown hg h.bl.size (fun b e2 => (h1 b e2).2.2)
 have hk : Kept D W W' := fun b hd => hg.block b (h.dl b hd).2.1 (fun e2 => (h1 b e2.symm).2.1 hd)
 refine ⟨h.ow.grown hg (fun b e1 e2 => (h1 b e2).1 (by rw [e1]; rfl)), h.rw.mono fun _ _ hx => hE.mono hx (fun _ h => h) hk, fun b hd => ⟨(h.dl b hd).1, Nat.lt_of_lt_of_le (h.dl b hd).2.1 hg.size, (h.dl b hd).2.2⟩, hb⟩
/-- Two cells stored. -/
def store2 (W : World) (g : Nat) (a b : Value) : World := (W.setCell ⟨g, 0, none⟩ a).setCell ⟨g, 1, none⟩ b
theorem store2_bk {W : World} {g t : Nat} {a0 b0 : Value} (h : Bk W g t #[a0, b0]) (a b : Value) : Bk (store2 W g a b) g t #[a, b] := by
 have h0 : Bk (W.setCell ⟨g, 0, none⟩ a) g t #[a, b0] := h.set_ 0 a
 exact h0.set_ 1 b
theorem store2_far (W : World) (g : Nat) (a b : Value) : (∀ x, x ≠ g → (store2 W g a b).heap[x]? = W.heap[x]?) ∧ (store2 W g a b).heap.size = W.heap.size := by
 refine ⟨fun x hx => ?_, by unfold store2; simp⟩
 unfold store2
 rw [Below.heap_setCell _ ⟨g, 1, none⟩ _ x hx, Below.heap_setCell _ ⟨g, 0, none⟩ _ x hx]
theorem store2_below {B : Nat} {w W : World} {g : Nat} (h : Below B w W) (hg : B ≤ g) (a b : Value) : Below B w (store2 W g a b) := (h.setCell (p := ⟨g, 0, none⟩) hg a).setCell (p := ⟨g, 1, none⟩) hg b
/-- A state in the making, in a block; its row is its own. -/
structure StM (w wr : World) (g : Nat) (m : Nat) (A : Option Addr) (n c : Nat) (xs : List Nat) : Prop where
 k : Bk wr g 183 #[.int .i64 (m : Int), .slice A n c]
 o : Ow 3 1 wr (g + 1) A n c (ic (gls xs))
 bl : Below w.heap.size w wr
 lt : w.heap.size ≤ g
section
variable {w wr W W4 : World} {g m : Nat} {A A' : Option Addr} {n c c' : Nat} {xs : List Nat}
theorem StM.call (h : StM w wr g m A n c xs) (hb : Below wr.heap.size wr W) : StM w W g m A n c xs := ⟨h.k.below hb h.k.lt, h.o.call hb, below_call h.bl hb, h.lt⟩
theorem StM.len (h : StM w wr g m A n c xs) : xs.length = n := by
 have h1 := h.o.len
 rw [ic_len, gls_len] at h1; omega
theorem StM.push (h : StM w wr g m A n c xs) {x : Nat} {o : Obj} (ho : Ow 3 1 W4 (g + 1) A' (n + 1) c' (ic (gls xs) ++ [.int .i64 (x : Int)])) (hb4 : Below (g + 1) (wr.alloc o) W4) : Bk W4 g 183 #[.int .i64 (m : Int), .slice A n c] ∧ StM w (W4.setCell ⟨g, 1, none⟩ (.slice A' (n + 1) c')) g m A' (n + 1) c' (xs ++ [x]) ∧ ∀ b, b < g → (W4.setCell ⟨g, 1, none⟩ (.slice A' (n + 1) c')).heap[b]? = wr.heap[b]? := by
 have hlt := h.k.lt
 have k4 : Bk W4 g 183 #[.int .i64 (m : Int), .slice A n c] := (h.k.alloc o).below (hb4.mono (Nat.le_refl _)) (by omega)
 refine ⟨k4, ⟨k4.set_ 1 _, ?_, ?_, h.lt⟩, fun b hb => ?_⟩
 ·rw [gls_app, ic_app]
  exact ho.setOther (p := ⟨g, 1, none⟩) (fun b e => by have := (ho.blk b (by rw [e]; rfl)).1; show b ≠ g; omega) _
 ·have h0 := h.bl.size
  have h1 := h.lt
  exact ((below_lit _ _ h.bl o).trans (hb4.mono (by omega))).setCell (p := ⟨g, 1, none⟩) (by show w.heap.size ≤ g; omega) _
 ·rw [Below.heap_setCell _ ⟨g, 1, none⟩ _ b (by show b ≠ g; omega), hb4.block b (by omega), Below.heap_alloc wr o b (by omega)]
theorem StM.rd (h : StM w wr g m A n c xs) : Rd wr (fun b => w.heap.size ≤ b ∧ b < wr.heap.size) A n (gls xs) ∧ Hd n c := by
 refine ⟨(rd_own h.o).mono (fun b hb => ⟨by have := h.lt; have := hb.1; omega, hb.2⟩) (Kept.refl _ _), h.o.cap⟩
end
/-- Rules that a state may have. -/
structure GoodS (back : Bool) (rs : List Rul) (s : Nat × List Nat) : Prop where
 has : AllHas back rs s.2
 inc : s.2.Pairwise (· < ·)
 met : s.1 ≤ 1000
theorem GoodS.lt {back : Bool} {rs : List Rul} {s : Nat × List Nat} (h : GoodS back rs s) {i : Nat} (hi : i ∈ s.2) : i < rs.length := by
 obtain ⟨r, h1, _⟩ := h.has i hi
 exact (List.getElem?_eq_some_iff.1 h1).1
theorem inc_len : ∀ (l : List Nat) (k n : Nat), l.Pairwise (· < ·) → (∀ i ∈ l, k ≤ i ∧ i < n) → k + l.length ≤ max k n
 | [], k, n, _, _ => by simp; omega
 | a :: l, k, n, hp, hb => by
  rw [List.pairwise_cons] at hp
  have h1 := hb a (List.mem_cons_self ..)
  have h2 := inc_len l (a + 1) n hp.2 (fun i hi => ⟨hp.1 i hi, (hb i (List.mem_cons_of_mem _ hi)).2⟩)
  rw [List.length_cons]; omega
theorem GoodS.len {back : Bool} {rs : List Rul} {s : Nat × List Nat} (h : GoodS back rs s) : s.2.length ≤ rs.length := by
 have := inc_len s.2 0 rs.length h.inc (fun i hi => ⟨Nat.zero_le _, h.lt hi⟩)
 omega
theorem firstD_good (back : Bool) (rs : List Rul) : GoodS back rs (firstD back rs) := ⟨firstD_has back rs, by unfold firstD; exact List.pairwise_lt_range.filter _, by unfold firstD; exact Nat.zero_le _⟩
theorem behindD_good {back : Bool} {rs : List Rul} {rows : List (List (List Int))} {s : Nat × List Nat} (h : GoodS back rs s) (g : Int) (hm : s.1 + 1 ≤ 1000) : GoodS back rs (behindD rows s g) := ⟨behindD_has h.has g, by unfold behindD; exact h.inc.filter _, hm⟩
/-- A state that is left has met no more sets than a row has. -/
theorem behindD_met {back : Bool} {rs : List Rul} {s : Nat × List Nat} {g : Int} (h : GoodS back rs s) (hs : SmB rs) (hne : (behindD (rowsD back rs) s g).2 ≠ []) : (behindD (rowsD back rs) s g).1 ≤ 100 := by
 obtain ⟨i, hi⟩ := List.exists_mem_of_ne_nil _ hne
 unfold behindD at hi ⊢
 dsimp only at hi ⊢
 obtain ⟨h1, h2⟩ := List.mem_filter.1 hi
 rw [Bool.and_eq_true, decide_eq_true_eq] at h2
 obtain ⟨r, hr, _⟩ := h.has i h1
 have h3 := (hs.row back (List.mem_of_getElem? hr)).1
 have h4 : (rowsD back rs).getD i [] = rowD back r := by unfold rowsD; rw [List.getD_eq_getElem?_getD, List.getElem?_map, hr]; rfl
 rw [h4] at h2
 omega
/-- So far the first n rules. -/
def firstN (back : Bool) (rs : List Rul) (n : Nat) : List Nat := (List.range n).filter fun i => match rs[i]? with | some r => hasD back r | none => false
theorem firstN_succ {back : Bool} {rs : List Rul} {n : Nat} {r : Rul} (h : rs[n]? = some r) : firstN back rs (n + 1) = firstN back rs n ++ if hasD back r then [n] else [] := by
 unfold firstN
 rw [List.range_succ, List.filter_append]
 congr 1
 cases hh : hasD back r <;> simp [h, hh]
theorem firstN_len (back : Bool) (rs : List Rul) (n : Nat) : (firstN back rs n).length ≤ n := by
 unfold firstN
 have := List.length_filter_le (fun i => match rs[i]? with | some r => hasD back r | none => false) (List.range n)
 simpa using this
def behP (back : Bool) (rs : List Rul) (m : Nat) (g : Int) (i : Nat) : Bool := decide (m < ((rowsD back rs).getD i []).length) && (((rowsD back rs).getD i []).getD m []).contains g
def behN (back : Bool) (rs : List Rul) (s : Nat × List Nat) (g : Int) (k : Nat) : List Nat := (s.2.take k).filter (behP back rs s.1 g)
theorem behN_all (back : Bool) (rs : List Rul) (s : Nat × List Nat) (g : Int) {k : Nat} (h : s.2.length ≤ k) : behindD (rowsD back rs) s g = (s.1 + 1, behN back rs s g k) := by
 unfold behN behindD behP; rw [List.take_of_length_le h]
theorem behN_succ {back : Bool} {rs : List Rul} {s : Nat × List Nat} {g : Int} {k i : Nat} (h : s.2[k]? = some i) : behN back rs s g (k + 1) = behN back rs s g k ++ if behP back rs s.1 g i then [i] else [] := by
 unfold behN
 rw [List.take_add_one, h, List.filter_append]
 congr 1
 cases hh : behP back rs s.1 g i <;> simp [hh]
theorem behN_len (back : Bool) (rs : List Rul) (s : Nat × List Nat) (g : Int) (k : Nat) : (behN back rs s g k).length ≤ s.2.length := by
 unfold behN
 have h1 := List.length_filter_le (behP back rs s.1 g) (s.2.take k)
 have h2 := List.length_take_le' k s.2
 omega
theorem rowsD_row {back : Bool} {rs : List Rul} {i : Nat} {r : Rul} (h : rs[i]? = some r) : (rowsD back rs).getD i [] = rowD back r := by
 unfold rowsD; rw [List.getD_eq_getElem?_getD, List.getElem?_map, h]; rfl
theorem behP_at {back : Bool} {rs : List Rul} {i : Nat} {r : Rul} (h : rs[i]? = some r) (m : Nat) (g : Int) : behP back rs m g i = (decide (m < (rowD back r).length) && decide (g ∈ (rowD back r).getD m [])) := by
 unfold behP; rw [rowsD_row h, contains_dec]
def endN (back : Bool) (rs : List Rul) (s : Nat × List Nat) (k : Nat) : Nat := endsDL (rowsD back rs) s.1 (s.2.take k) 0
theorem endN_succ {back : Bool} {rs : List Rul} {s : Nat × List Nat} {k i : Nat} {r : Rul} (h : s.2[k]? = some i) (hr : rs[i]? = some r) : endN back rs s (k + 1) = if (rowD back r).length = s.1 then endN back rs s k + 2 ^ i else endN back rs s k := by
 unfold endN endsDL
 rw [List.take_add_one, h, List.foldl_append]
 show (if ((rowsD back rs).getD i []).length = s.1 then _ else _) = _
 rw [rowsD_row hr]
theorem endN_all (back : Bool) (rs : List Rul) (s : Nat × List Nat) {k : Nat} (h : s.2.length ≤ k) : endsD (rowsD back rs) s = endN back rs s k := by
 unfold endN endsD; rw [List.take_of_length_le h]
theorem endsDL_lt (rows : List (List (List Int))) (m n : Nat) : ∀ (l : List Nat) (k acc : Nat), l.Pairwise (· < ·) → (∀ i ∈ l, k ≤ i ∧ i < n) → acc < 2 ^ k → k ≤ n → endsDL rows m l acc < 2 ^ n
 | [], k, acc, _, _, ha, hk => by
  unfold endsDL
  exact Nat.lt_of_lt_of_le ha (Nat.pow_le_pow_right (by omega) hk)
 | a :: l, k, acc, hp, hb, ha, hk => by
  rw [List.pairwise_cons] at hp
  have h1 := hb a (List.mem_cons_self ..)
  have h2 : (2:Nat) ^ k ≤ 2 ^ a := Nat.pow_le_pow_right (by omega) h1.1
  have h3 : (2:Nat) ^ (a + 1) = 2 ^ a + 2 ^ a := by rw [Nat.pow_succ]; omega
  have h4 := endsDL_lt rows m n l (a + 1) (if (rows.getD a []).length = m then acc + 2 ^ a else acc) hp.2 (fun i hi => ⟨hp.1 i hi, (hb i (List.mem_cons_of_mem _ hi)).2⟩) (by split <;> omega) (by omega)
  unfold endsDL at h4 ⊢
  rw [List.foldl_cons]
  exact h4
theorem endN_lt {back : Bool} {rs : List Rul} {s : Nat × List Nat} (h : GoodS back rs s) (hn : rs.length ≤ 64) (k : Nat) : endN back rs s k < 18446744073709551616 := by
 unfold endN
 have h1 := endsDL_lt (rowsD back rs) s.1 64 (s.2.take k) 0 0 (h.inc.sublist (List.take_sublist _ _)) (fun i hi => ⟨Nat.zero_le _, by have := h.lt (List.mem_of_mem_take hi); omega⟩) (by decide) (by omega)
 exact Nat.lt_of_lt_of_le h1 (by decide)

end Go.Proofs.YtgcmedkaadagmaaDoor
