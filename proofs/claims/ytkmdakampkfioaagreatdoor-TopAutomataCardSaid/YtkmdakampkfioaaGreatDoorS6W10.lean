/- Words on slices of ints for the walks of this seat: what a slice reads as, what the call owns, and how these stay over new blocks, stores and appends. -/
import Derived.Test.YtkmdakampkfioaaGreatDoorProg
import Derived.WalkKit
import Derived.WalkSpells
import Derived.WalkLawsBesides
import Derived.Deep.Draws
import Derived.Deep.AppendLies
import Derived.Maps.AppendAt
import Derived.Lib.Hide
import Derived.Test.YtkmdakampkfioaaGreatDoorShelf
import Derived.Deep.QuietTactic
import Derived.BigQuiet
import Derived.Laws.BitsAllLaws
import Derived.Laws.BitsLemmas
import Derived.Sort.OwnSortedInts
import Derived.Lib.RowBridge
import Derived.Maps.Own
import Derived.Maps.OwnOps
import Derived.Maps.OwnSet
import Derived.WalkArith
namespace Go.Proofs.YtkmdakampkfioaaGreatDoor.S6
open Go.RowKit
def Rd (w : World) (B : Nat) (A : Option Addr) (n : Nat) (xs : List Int) : Prop :=
  xs.length = n ∧ (0 < n → ∃ b o, A = some ⟨b, o, none⟩ ∧ b < B ∧ ∀ (i : Nat) (x : Int), xs[i]? = some x → w.cell? ⟨b, o + i, none⟩ = some (.int .i64 x))
def Ow (w : World) (base : Nat) (A : Option Addr) (n c : Nat) (xs : List Int) : Prop :=
  w.ownsRow base 3 1 (.slice A n c) n (xs.map (Value.int .i64))
section
variable {w w' : World} {B B' n c base : Nat} {A : Option Addr} {xs : List Int}
theorem Rd.len (h : Rd w B A n xs) : xs.length = n := h.1
theorem Rd.nil : Rd w B A 0 [] := ⟨rfl, fun h => absurd h (by omega)⟩
theorem Rd.pos (h : Rd w B A n xs) (hn : 0 < n) : ∃ b o, A = some ⟨b, o, none⟩ ∧ b < B ∧ ∀ (i : Nat) (x : Int), xs[i]? = some x → w.cell? ⟨b, o + i, none⟩ = some (.int .i64 x) := h.2 hn
theorem Rd.keep (h : Rd w B A n xs) (hk : ∀ p : Addr, p.block < B → w'.cell? p = w.cell? p) : Rd w' B A n xs :=
  ⟨h.1, fun hn => by
    obtain ⟨b, o, e, hb, hc⟩ := h.2 hn;exact ⟨b, o, e, hb, fun i x hx => (hk _ hb).trans (hc i x hx)⟩⟩
theorem Rd.more (h : Rd w B A n xs) (hB : B ≤ B') : Rd w B' A n xs :=
  ⟨h.1, fun hn => by
    obtain ⟨b, o, e, hb, hc⟩ := h.2 hn;exact ⟨b, o, e, by omega, hc⟩⟩
theorem Rd.below (h : Rd w B A n xs) (hb : Below B w w') : Rd w' B A n xs := h.keep fun _ hp => hb.cell hp
theorem Rd.alloc (h : Rd w B A n xs) (hB : B ≤ w.heap.size) (o : Obj) : Rd (w.alloc o) B A n xs := h.keep fun p hp => World.cell?_alloc_lt w o p (by omega)
theorem Ow.len (h : Ow w base A n c xs) : xs.length = n := by have := h.1; simpa using this
theorem Ow.nil (w : World) (base : Nat) : Ow w base none 0 0 [] := World.ownsRow_nil w base 3 1
theorem Ow.lt (h : Ow w base A n c xs) : ∀ b o s, A = some ⟨b, o, s⟩ → base ≤ b ∧ b < w.heap.size := fun b o s e => by
  subst e; exact World.ownsRow.lt h b rfl
theorem Ow.rd (h : Ow w base A n c xs) : Rd w w.heap.size A n xs := by
  refine ⟨h.len, fun hn => ?_⟩;obtain ⟨g, cap, hv, _, hlt⟩ := World.ownsRow.form h hn;have hA : A = some ⟨g, 0, none⟩ := by injection hv
  subst hA;refine ⟨g, 0, rfl, hlt, fun i x hx => ?_⟩;have hcap : c = cap := by injection hv
  have hi : i < n := by
    have h1 := h.len;have h2 := (List.getElem?_eq_some_iff.1 hx).1;omega
  have := World.ownsRow.cellAt h i (by omega);rw [Nat.zero_add, this, List.getElem?_map, hx]; rfl
theorem Ow.alloc (h : Ow w base A n c xs) (o : Obj) : Ow (w.alloc o) base A n c xs := World.ownsRow.alloc h o
theorem Ow.keep (h : Ow w base A n c xs) (hk : ∀ b, A = some ⟨b, 0, none⟩ → w'.heap[b]? = w.heap[b]?) : Ow w' base A n c xs := by
  refine ⟨h.1, ?_⟩;rcases h.2 with h2 | ⟨g, cap, cur, e, hg, hh, r⟩
  · exact .inl h2
  · refine .inr ⟨g, cap, cur, e, hg, ?_, r⟩;rw [hk g (by injection e)]; exact hh
theorem Ow.below (h : Ow w base A n c xs) {K : Nat} (hb : Below K w w') (hK : w.heap.size ≤ K) : Ow w' base A n c xs :=
  h.keep fun b e => hb.block b (by have := (h.lt b 0 none e).2; omega)
theorem Ow.frozen {g : Nat} (h : Ow w base (some ⟨g, 0, none⟩) n c xs) (j : Nat) : w.frozen? ⟨g, j, none⟩ = false := by
  have hc : w.ownsRow base 3 1 (.slice (some ⟨g, 0, none⟩) n c) n (xs.map (Value.int .i64)) := h;exact World.ownsRow.frozenAt hc j
theorem Ow.cell {g : Nat} (h : Ow w base (some ⟨g, 0, none⟩) n c xs) {j : Nat} {x : Int} (hj : xs[j]? = some x) : w.cell? ⟨g, j, none⟩ = some (.int .i64 x) := by
  have hi : j < n := by
    have h1 := h.len;have h2 := (List.getElem?_eq_some_iff.1 hj).1;omega
  have := World.ownsRow.cellAt h j (by omega);rw [this, List.getElem?_map, hj]; rfl
theorem Ow.stored {g : Nat} (h : Ow w base (some ⟨g, 0, none⟩) n c xs) (j : Nat) (x : Int) : Ow (w.setCell ⟨g, j, none⟩ (.int .i64 x)) base (some ⟨g, 0, none⟩) n c (xs.set j x) := by
  have := (World.ownsRow.stored h j (.int .i64 x)).1;unfold Ow;rw [List.map_set]; exact this
end
theorem below_drewN {B : Nat} {a w : World} (h : Below B a w) (n : Nat) : Below B a (w.drewN n) := ⟨h.os, h.tape, h.output, h.size, h.block⟩
theorem getD_some (xs : List Int) (k : Nat) (h : k < xs.length) : ∃ x, xs[k]? = some x := ⟨xs[k], List.getElem?_eq_getElem h⟩
theorem Tryz.infoI : (Tryz.prog.info? 3).map (fun i => (i.zero, i.size, i.bytes)) = some (some (.int .i64 0), 1, 8) := by kernel_rfl
theorem own_slice {w : World} {base e size n : Nat} {v : Value} {xs : List Value} (h : w.ownsRow base e size v n xs) : ∃ A c, v = .slice A n c := by
  rcases h.2 with ⟨rfl, rfl⟩ | ⟨g, cap, cur, rfl, _⟩
  · exact ⟨_, _, rfl⟩
  · exact ⟨_, _, rfl⟩
theorem mkI {ops : Array Oper} {rest : List Oper} {o : Oper} {a : Act} {Q : Exit → Act → World → Prop} (hg : o.guard = none) (l c : Operand) (hop : o.op = Op.makeSlice 22 l c)
    (w : World) (base n : Nat) (L C : Int) (hl : a.eval l = .int .i64 L) (hc : a.eval c = .int .i64 C) (hL : L = (n : Int)) (hC : C = (n : Int)) (hn : n ≤ 1000000) (hb : base ≤ w.heap.size)
    (hK : ∀ w', Ow w' base (some ⟨w.heap.size, 0, none⟩) n n (List.replicate n 0) → Below w.heap.size w w' → w.heap.size < w'.heap.size → wpList Tryz.prog ops Q rest (a.put o.dst (.slice (some ⟨w.heap.size, 0, none⟩) n n)) w') :
    wpList Tryz.prog ops Q (o :: rest) a w := by
  obtain ⟨i0, hi, hz0, hz1, hz2⟩ := info_parts Tryz.infoI;refine wpList_make_full w hg l c 22 hop base 3 i0 (.int .i64 0) 1 Tryz.underlying22 hi hz0 hz1 .i64 .i64 L C n hl hc hL hC (by rw [hz2]; omega) (by unfold maxLen; omega) hb ?_;intro w' ho hgr;have ho2 : Ow w' base (some ⟨w.heap.size, 0, none⟩) n n (List.replicate n 0) := by
    unfold Ow;have e : (madeCells (Value.int .i64 0).cells (n * 1)).toList = (List.replicate n (0 : Int)).map (Value.int .i64) := by
      rw [show (Value.int .i64 0).cells = #[Value.int .i64 0] from rfl, toList_madeCells_one, List.map_replicate, Nat.mul_one]
    rw [← e]; exact ho
  exact hK w' ho2 ((Below.refl _ _).grown hgr (Nat.le_refl _) (fun k hk => by cases hk)) (ho2.lt _ _ _ rfl).2
theorem grownBy_set {a w : World} {g : Nat} (h : a.grownBy w (some g)) (j : Nat) (u : Value) : a.grownBy (w.setCell ⟨g, j, none⟩ u) (some g) :=
  ⟨h.os, h.tape, h.output, by simpa [World.setCell] using h.size, fun i hi hne => (Below.heap_setCell w ⟨g, j, none⟩ u i (by
    rintro rfl;exact hne rfl)).trans (h.block i hi hne)⟩
theorem ret_bool {a b : Bool} (h : a = b) : Ending.returned (.bool a) = .returned (.bool b) := by rw [h]
theorem drN (w : World) (a b : Nat) : ∃ k, (w.drewN a).drewN b = w.drewN k := ⟨a + b, by simp⟩
theorem getD_of {xs : List Int} {k : Nat} {x : Int} (h : xs[k]? = some x) : xs.getD k 0 = x := by simp [h]
theorem below_call {w0 w w' : World} (h : Below w0.heap.size w0 w) (k : Below w.heap.size w w') : Below w0.heap.size w0 w' := h.trans (k.mono h.size)
theorem Rd.call {w w' : World} {B n : Nat} {A : Option Addr} {xs : List Int} (h : Rd w B A n xs) (hB : B ≤ w.heap.size) (k : Below w.heap.size w w') : Rd w' w'.heap.size A n xs := (h.below (k.mono hB)).more (Nat.le_trans hB k.size)
theorem Rd.lit {w : World} {n : Nat} {A : Option Addr} {xs : List Int} (h : Rd w w.heap.size A n xs) (o : Obj) : Rd (w.alloc o) (w.alloc o).heap.size A n xs := (h.alloc (Nat.le_refl _) o).more (by simp)
theorem Ow.call {w w' : World} {base n c : Nat} {A : Option Addr} {xs : List Int} (h : Ow w base A n c xs) (k : Below w.heap.size w w') : Ow w' base A n c xs := h.below k (Nat.le_refl _)
open Go.RowKit Go.Sort
def sorted (xs : List Int) : List Int := xs.mergeSort fun x y => decide (x ≤ y)
def ofL (xs : List Int) : List Int := Lib.compact (sorted xs)
theorem getD_cell {w : World} {b o : Nat} {xs : List Int} (h : ∀ (i : Nat) (x : Int), xs[i]? = some x → w.cell? ⟨b, o + i, none⟩ = some (.int .i64 x)) : ∀ j, j < xs.length → w.cell? ⟨b, o + j, none⟩ = some (.int .i64 (xs.getD j 0)) := fun j hj => by
  obtain ⟨x, hx⟩ := getD_some xs j hj;rw [getD_of hx]; exact h j x hx
theorem clone_c (A : Option Addr) (n c : Nat) (xs : List Int) (w : World) (hA : Rd w w.heap.size A n xs) (hn : n ≤ 1000000) :
    Calls Tryz.prog 72 #[.slice A n c] w fun e w' => ∃ A' c', e = .returned (.slice A' n c') ∧ Ow w' w.heap.size A' n c' xs ∧ Below w.heap.size w w' := by
  rcases A with _ | ad
  · have hm : n = 0 := by
      rcases Nat.eq_zero_or_pos n with h0 | h0
      · exact h0
      · obtain ⟨_, _, h, _⟩ := hA.2 h0; cases h
    subst hm;have hx : xs = [] := List.eq_nil_of_length_eq_zero hA.1;subst hx;refine (Tryz.slices_Clone_int_nil 0 c w).mono ?_;rintro e w' ⟨rfl, rfl⟩;exact ⟨none, 0, rfl, Ow.nil _ _, Below.refl _ _⟩
  · rcases Nat.eq_zero_or_pos n with h0 | h0
    · subst h0;have hx : xs = [] := List.eq_nil_of_length_eq_zero hA.1;subst hx;refine (Tryz.slices_Clone_int_zero ad c w).mono ?_;rintro e w' ⟨v', rfl, ho, _, hb⟩;obtain ⟨A', c', rfl⟩ := own_slice ho;exact ⟨A', c', rfl, ho, hb⟩
    · obtain ⟨b, o, e, _, hc⟩ := hA.pos h0;injection e with e; subst e;refine (Tryz.slices_Clone_int b o n c xs w (by rw [hA.len]; omega) (by omega) (getD_cell hc)).mono ?_;rintro e w' ⟨v', rfl, ho, _, hb⟩;rw [List.take_of_length_le (by rw [hA.len]; omega)] at ho;obtain ⟨A', c', rfl⟩ := own_slice ho;exact ⟨A', c', rfl, ho, hb⟩
theorem sort_c (A : Option Addr) (n c base : Nat) (xs : List Int) (w : World) (hA : Ow w base A n c xs) (hb : base ≤ w.heap.size) (hn : n ≤ 1000000) :
    Calls Tryz.prog 89 #[.slice A n c] w fun e w' => e = .returned (.tuple #[]) ∧ Ow w' base A n c (sorted xs) ∧ Below base w w' := by
  have hlen := hA.len;rcases hA.2 with ⟨h1, h2⟩ | ⟨g, cap, cur, h1, h2, h3, h4, h5, h6, h7⟩
  · injection h1 with h1 hn0 hc0;subst h1; subst hn0; subst hc0;have hx : xs = [] := List.eq_nil_of_length_eq_zero hlen;subst hx;refine (Tryz.slices_Sort_int_none none 0 w).mono ?_;rintro e w' ⟨rfl, rfl⟩;exact ⟨rfl, by rw [show sorted [] = [] by simp [sorted]]; exact Ow.nil _ _, Below.refl _ _⟩
  · injection h1 with h1 hn0 hc0;subst h1; subst hc0;subst hlen;have ht : cur.toList.take xs.length = xs.map (Value.int .i64) := by rw [← h7, Nat.mul_one]
    have hg : g < w.heap.size := (Array.getElem?_eq_some_iff.1 h3).1;refine (Tryz.slices_Sort_int g 0 c xs w (holds_of_blockI h3 ht) hg (by omega)).mono ?_;rintro e w' ⟨rfl, m, os, rfl⟩;refine ⟨rfl, ownsRow_sortedI (by simp) h2 h3 h4 h5 h6, ?_⟩;exact (Below.refl _ _).grown (grownBy_sortedI _) hb (fun k hk => by injection hk with hk; omega)
theorem compact_c (A : Option Addr) (n c base : Nat) (xs : List Int) (w : World) (hA : Ow w base A n c xs) (hb : base ≤ w.heap.size) (hn : n ≤ 1000000) :
    Calls Tryz.prog 90 #[.slice A n c] w fun e w' => ∃ m, e = .returned (.slice A m c) ∧ Ow w' base A m c (Lib.compact xs) ∧ Below base w w' := by
  have hlen := hA.len;rcases hA.2 with ⟨h1, h2⟩ | ⟨g, cap, cur, h1, h2, h3, h4, h5, h6, h7⟩
  · injection h1 with h1 hn0 hc0;subst h1; subst hn0; subst hc0;have hx : xs = [] := List.eq_nil_of_length_eq_zero hlen;subst hx;refine (Tryz.slices_Compact_int_empty none 0 w).mono ?_;rintro e w' ⟨rfl, rfl⟩;exact ⟨0, rfl, Ow.nil _ _, Below.refl _ _⟩
  · injection h1 with h1 hn0 hc0;subst h1; subst hc0;subst hlen;have ht : cur.toList.take xs.length = xs.map (Value.int .i64) := by rw [← h7, Nat.mul_one]
    have hg : g < w.heap.size := (Array.getElem?_eq_some_iff.1 h3).1;refine (Tryz.slices_Compact_int g 0 c xs w (holds_of_blockI h3 ht) (by omega) h4).mono ?_;rintro e w' ⟨rfl, q, rfl⟩;have hle := Lib.compact_length_le xs;have hfull : (Lib.compact xs ++ List.replicate (xs.length - (Lib.compact xs).length) 0).length = xs.length := by simp; omega
    have key := ownsRow_sortedI (w := w) (base := base) (g := g) (cap := c) (n := q) (e := 3) (os := #[]) (cur := cur) (ss := xs) (ts := Lib.compact xs ++ List.replicate (xs.length - (Lib.compact xs).length) 0) hfull h2 h3 h4 h5 h6;have hgr := grownBy_sortedI (w := w) (g := g) (n := q) (os := #[]) (Lib.compact xs ++ List.replicate (xs.length - (Lib.compact xs).length) 0).toArray;rw [grow_empty] at key hgr;refine ⟨_, rfl, ?_, (Below.refl _ _).grown hgr hb (fun k hk => by injection hk with hk; omega)⟩;rcases key.2 with ⟨k1, _⟩ | ⟨g', cap', cur', k1, k2, k3, k4, k5, k6, k7⟩
    · cases k1
    · injection k1 with k1 _ kc;injection k1 with k1; injection k1 with k1; subst k1; subst kc;refine ⟨by simp, .inr ⟨g, c, cur', rfl, k2, k3, by omega, k5, k6, ?_⟩⟩;have := congrArg (List.take (Lib.compact xs).length) k7;rw [List.take_take, ← List.map_take, List.take_left, Nat.mul_one, Nat.min_eq_left (by omega)] at this;rw [Nat.mul_one]; exact this
theorem sorted_length (xs : List Int) : (sorted xs).length = xs.length := by simp [sorted]
theorem of_c (A : Option Addr) (n c : Nat) (xs : List Int) (w : World) (hA : Rd w w.heap.size A n xs) (hn : n ≤ 1000000) :
    Calls Tryz.prog 61 #[.slice A n c] w fun e w' => ∃ A' m c', e = .returned (.slice A' m c') ∧ m ≤ n ∧ Ow w' w.heap.size A' m c' (ofL xs) ∧ Below w.heap.size w w' := by
  have hL := Lib.hid hA.len;go_enter Tryz.func61, Tryz.ntmps61;go_wp2_with fail;refine (clone_c _ _ _ _ _ hA hn).mono ?_;rintro e w1 ⟨A1, c1, rfl, ho1, hb1⟩;have bs1 := hb1.size;clear hA;go_wp2_with fail;refine (sort_c _ _ _ _ _ _ ho1 bs1 hn).mono ?_;rintro e w2 ⟨rfl, ho2, hb2⟩;have bs2 := hb2.size;have b2 := hb1.trans hb2;clear ho1 hb1 hb2;go_wp2_with fail;refine (compact_c _ _ _ _ _ _ ho2 (by omega) hn).mono ?_;rintro e w3 ⟨m, rfl, ho3, hb3⟩;have b3 := b2.trans hb3;have hm : m ≤ n := by
    have h1 := Lib.compact_length_le (sorted xs);have h2 := ho3.len;rw [sorted_length, hL.out] at h1; omega
  go_wp2;go_ret;exact ⟨_, _, _, rfl, hm, ho3, b3⟩
def Srt (xs : List Int) : Prop := xs.Pairwise (· < ·)
theorem srt_unique : ∀ {xs ys : List Int}, Srt xs → Srt ys → (∀ x, x ∈ xs ↔ x ∈ ys) → xs = ys
  | [], [], _, _, _ => rfl
  | [], y :: ys, _, _, h => absurd ((h y).2 (by simp)) (by simp)
  | x :: xs, [], _, _, h => absurd ((h x).1 (by simp)) (by simp)
  | x :: xs, y :: ys, h1, h2, h => by
    have a1 := (List.pairwise_cons.1 h1).1;have a2 := (List.pairwise_cons.1 h2).1;have e : x = y := by
      have hx := (h x).1 (by simp);have hy := (h y).2 (by simp);rcases List.mem_cons.1 hx with e | e
      · exact e
      · rcases List.mem_cons.1 hy with e2 | e2
        · exact e2.symm
        · have := a2 x e; have := a1 y e2; omega
    subst e;congr 1;refine srt_unique (List.pairwise_cons.1 h1).2 (List.pairwise_cons.1 h2).2 fun z => ⟨fun hz => ?_, fun hz => ?_⟩
    · rcases List.mem_cons.1 ((h z).1 (List.mem_cons_of_mem _ hz)) with e | e
      · have := a1 z hz; omega
      · exact e
    · rcases List.mem_cons.1 ((h z).2 (List.mem_cons_of_mem _ hz)) with e | e
      · have := a2 z hz; omega
      · exact e
theorem sorted_mem (xs : List Int) (x : Int) : x ∈ sorted xs ↔ x ∈ xs := by simp [sorted]
theorem sorted_le (xs : List Int) : (sorted xs).Pairwise (· ≤ ·) := by
  have := List.pairwise_mergeSort (le := fun x y : Int => decide (x ≤ y)) (by intro a b c; simp; omega) (by intro a b; simp; omega) xs;refine this.imp ?_;intro a b h; simpa using h
theorem compact_upto {zs : List Int} (h : zs.Pairwise (· ≤ ·)) : ∀ m, m ≤ zs.length → (∀ x, x ∈ Lib.compactUpTo zs.toArray m ↔ x ∈ zs.take m) ∧ Srt (Lib.compactUpTo zs.toArray m)
  | 0, _ => ⟨by simp [Lib.compactUpTo], by simp [Lib.compactUpTo, Srt]⟩
  | m + 1, hm => by
    obtain ⟨ih1, ih2⟩ := compact_upto h m (by omega);have hz : zs.toArray[m]! = zs[m] := by simp [getElem!_pos, show m < zs.length by omega]
    have ht : zs.take (m + 1) = zs.take m ++ [zs[m]] := by rw [List.take_add_one, List.getElem?_eq_getElem (by omega)]; rfl
    rw [Lib.compactUpTo_succ, ht];clear ht;by_cases hk : Lib.keeps zs.toArray m = true
    · rw [if_pos hk, hz];refine ⟨fun x => by rw [List.mem_append, List.mem_append, ih1], ?_⟩;unfold Srt;rw [List.pairwise_append];refine ⟨ih2, by simp, fun a ha b hb => ?_⟩;simp at hb; subst hb;rw [ih1] at ha;obtain ⟨i, hi, rfl⟩ := List.mem_iff_getElem.1 ha;rw [List.getElem_take];simp at hi;have hpw := List.pairwise_iff_getElem.1 h;have hne : zs[m] ≠ zs[m - 1] := by
        unfold Lib.keeps at hk;have hk2 := of_decide_eq_true hk;rcases hk2 with e | e
        · omega
        · rw [hz] at e;have : zs.toArray[m - 1]! = zs[m - 1] := by simp [getElem!_pos, show m - 1 < zs.length by omega]
          rw [this] at e; exact e
      have h1 : zs[i] ≤ zs[m - 1] := by
        by_cases e : i = m - 1
        · subst e; exact Int.le_refl _
        · exact hpw i (m - 1) (by omega) (by omega) (by omega)
      have h2 : zs[m - 1] ≤ zs[m] := hpw (m - 1) m (by omega) (by omega) (by omega);omega
    · rw [if_neg hk, List.append_nil];refine ⟨fun x => ?_, ih2⟩;rw [ih1, List.mem_append, List.mem_singleton];refine ⟨.inl, fun hx => hx.elim id fun e => ?_⟩;have h0 : m ≠ 0 := by rintro rfl; exact hk (Lib.keeps_lt_one _ 0 (by omega))
      have e2 : zs[m] = zs[m - 1] := by
        refine Decidable.byContradiction fun hne => hk (Lib.keeps_pos ?_);rw [hz];have : zs.toArray[m - 1]! = zs[m - 1] := by simp [getElem!_pos, show m - 1 < zs.length by omega]
        rw [this]; exact hne
      rw [e, e2];exact List.mem_iff_getElem.2 ⟨m - 1, by simp; omega, by rw [List.getElem_take]⟩
theorem ofL_mem (xs : List Int) (x : Int) : x ∈ ofL xs ↔ x ∈ xs := by
  have := (compact_upto (sorted_le xs) (sorted xs).length (Nat.le_refl _)).1 x;rw [List.take_length, sorted_mem] at this;exact this
theorem ofL_srt (xs : List Int) : Srt (ofL xs) := (compact_upto (sorted_le xs) (sorted xs).length (Nat.le_refl _)).2
theorem ofL_of_srt {xs : List Int} (h : Srt xs) : ofL xs = xs := srt_unique (ofL_srt xs) h (ofL_mem xs)
theorem srt_at {xs : List Int} (h : Srt xs) {i j : Nat} {x y : Int} (hij : i < j) (hx : xs[i]? = some x) (hy : xs[j]? = some y) : x < y := by
  obtain ⟨h1, rfl⟩ := List.getElem?_eq_some_iff.1 hx;obtain ⟨h2, rfl⟩ := List.getElem?_eq_some_iff.1 hy;exact List.pairwise_iff_getElem.1 h i j h1 h2 hij
theorem srt_snoc {xs : List Int} {x : Int} (h : Srt xs) (hx : ∀ y ∈ xs, y < x) : Srt (xs ++ [x]) := by
  unfold Srt; rw [List.pairwise_append]; exact ⟨h, by simp, fun a ha b hb => by simp at hb; subst hb; exact hx a ha⟩
instance (xs : List Int) : Decidable (Srt xs) := inferInstanceAs (Decidable (xs.Pairwise (· < ·)))
section
variable {α β : Type} [DecidableEq α] [DecidableEq β]
def firstOf (f : Nat → α) (i : Nat) : Nat := ((List.range i).find? (fun j => decide (f j = f i))).getD i
theorem fo_spec (f : Nat → α) (i : Nat) : firstOf f i ≤ i ∧ f (firstOf f i) = f i ∧ ∀ j, j < firstOf f i → f j ≠ f i := by
  unfold firstOf;cases h : (List.range i).find? (fun j => decide (f j = f i)) with
  | none =>
    rw [List.find?_range_eq_none] at h;refine ⟨Nat.le_refl _, rfl, fun j hj => ?_⟩;have := h j hj;simpa using this
  | some j =>
    rw [List.find?_range_eq_some] at h;obtain ⟨h1, h2, h3⟩ := h;refine ⟨?_, by simpa using h1, fun k hk => ?_⟩
    · have := List.mem_range.1 h2; simp; omega
    · have := h3 k (by simpa using hk); simpa using this
theorem fo_le (f : Nat → α) (i : Nat) : firstOf f i ≤ i := (fo_spec f i).1
theorem fo_key (f : Nat → α) (i : Nat) : f (firstOf f i) = f i := (fo_spec f i).2.1
theorem fo_min (f : Nat → α) (i j : Nat) (h : f j = f i) : firstOf f i ≤ j := by
  rcases Nat.lt_or_ge j (firstOf f i) with hlt | hge
  · exact absurd h ((fo_spec f i).2.2 j hlt)
  · exact hge
theorem fo_eq (f : Nat → α) (i j : Nat) : firstOf f i = firstOf f j ↔ f i = f j := by
  constructor
  · intro h; rw [← fo_key f i, ← fo_key f j, h]
  · intro h;have h1 := fo_min f i (firstOf f j) ((fo_key f j).trans h.symm);have h2 := fo_min f j (firstOf f i) ((fo_key f i).trans h);omega
theorem fo_fo (f : Nat → α) (i : Nat) : firstOf f (firstOf f i) = firstOf f i := (fo_eq f _ _).2 (fo_key f i)
theorem fo_congr {f : Nat → α} {g : Nat → β} {n : Nat} (h : ∀ i j, i < n → j < n → (f i = f j ↔ g i = g j)) {i : Nat} (hi : i < n) : firstOf f i = firstOf g i := by
  have l1 := fo_le f i;have l2 := fo_le g i;have h1 := fo_min f i (firstOf g i) ((h _ _ (by omega) hi).2 (fo_key g i));have h2 := fo_min g i (firstOf f i) ((h _ _ (by omega) hi).1 (fo_key f i));omega
def nF (f : Nat → α) (i : Nat) : Nat := ((List.range i).filter (fun j => decide (firstOf f j = j))).length
theorem nF_succ (f : Nat → α) (i : Nat) : nF f (i + 1) = nF f i + if firstOf f i = i then 1 else 0 := by
  unfold nF;rw [List.range_succ, List.filter_append, List.length_append];by_cases h : firstOf f i = i <;> simp [h]
theorem nF_mono (f : Nat → α) {i j : Nat} (h : i ≤ j) : nF f i ≤ nF f j := by
  induction j with
  | zero => obtain rfl : i = 0 := by omega
            exact Nat.le_refl _
  | succ j ih =>
    by_cases e : i = j + 1
    · subst e; exact Nat.le_refl _
    · rw [nF_succ]; have := ih (by omega); omega
theorem nF_lt (f : Nat → α) {i j : Nat} (h : i < j) (hf : firstOf f i = i) : nF f i < nF f j := by
  have h1 := nF_succ f i;rw [if_pos hf] at h1;have h2 := nF_mono f (show i + 1 ≤ j by omega);omega
theorem nF_le (f : Nat → α) (i : Nat) : nF f i ≤ i := by
  unfold nF; have := List.length_filter_le (fun j => decide (firstOf f j = j)) (List.range i); simpa using this
def classOf (f : Nat → α) (i : Nat) : Nat := nF f (firstOf f i)
theorem class_new {f : Nat → α} {i : Nat} (h : firstOf f i = i) : classOf f i = nF f i := by unfold classOf; rw [h]
theorem class_eq (f : Nat → α) (i j : Nat) : classOf f i = classOf f j ↔ f i = f j := by
  rw [← fo_eq f];unfold classOf;constructor
  · intro h;rcases Nat.lt_trichotomy (firstOf f i) (firstOf f j) with hl | hl | hl
    · have := nF_lt f hl (fo_fo f i); omega
    · exact hl
    · have := nF_lt f hl (fo_fo f j); omega
  · intro h; rw [h]
theorem class_lt (f : Nat → α) {i j : Nat} (h : j < i) : classOf f j < nF f i := nF_lt f (by have := fo_le f j; omega) (fo_fo f j)
theorem nF_congr {f : Nat → α} {g : Nat → β} {n : Nat} (h : ∀ i j, i < n → j < n → (f i = f j ↔ g i = g j)) {i : Nat} (hi : i ≤ n) : nF f i = nF g i := by
  induction i with
  | zero => rfl
  | succ i ih => rw [nF_succ, nF_succ, ih (by omega), fo_congr h (show i < n by omega)]
theorem class_congr {f : Nat → α} {g : Nat → β} {n : Nat} (h : ∀ i j, i < n → j < n → (f i = f j ↔ g i = g j)) {i : Nat} (hi : i < n) : classOf f i = classOf g i := by
  unfold classOf;rw [fo_congr h hi];exact nF_congr h (by have := fo_le g i; omega)
def partF (f : Nat → α) (n : Nat) : List Int := (List.range n).map fun i => (classOf f i : Int)
theorem partF_length (f : Nat → α) (n : Nat) : (partF f n).length = n := by simp [partF]
theorem partF_at (f : Nat → α) {n i : Nat} (h : i < n) : (partF f n)[i]? = some (classOf f i : Int) := by simp [partF, h]
theorem partF_succ (f : Nat → α) (n : Nat) : partF f (n + 1) = partF f n ++ [(classOf f n : Int)] := by simp [partF, List.range_succ]
theorem partF_congr {f : Nat → α} {g : Nat → β} {n : Nat} (h : ∀ i j, i < n → j < n → (f i = f j ↔ g i = g j)) : partF f n = partF g n := by
  unfold partF;apply List.map_congr_left;intro i hi;rw [class_congr h (List.mem_range.1 hi)]
end
def sig (xss : List (List Int)) (i : Nat) : List Bool := xss.map fun xs => decide ((i : Int) ∈ xs)
def partL (xss : List (List Int)) (n : Nat) : List Int := partF (sig xss) n
theorem sig_eq (xss : List (List Int)) (i j : Nat) : sig xss i = sig xss j ↔ ∀ xs ∈ xss, ((i : Int) ∈ xs ↔ (j : Int) ∈ xs) := by
  unfold sig;rw [List.map_inj_left];constructor
  · intro h xs hx;have := h xs hx;simpa using this
  · intro h xs hx;have := h xs hx;simpa using this
theorem sig_snoc {xss : List (List Int)} {k : Nat} {xs : List Int} (h : xss[k]? = some xs) (i j : Nat) : sig (xss.take (k + 1)) i = sig (xss.take (k + 1)) j ↔ sig (xss.take k) i = sig (xss.take k) j ∧ ((i : Int) ∈ xs ↔ (j : Int) ∈ xs) := by
  rw [List.take_add_one, h];simp [sig_eq, or_imp, forall_and]
-- the second part: counting anew
def gm (cs : List Int) (i : Nat) : Int → Option Int := fun o => ((List.range i).find? (fun j => decide (cs.getD j 0 = o))).map (fun j => (classOf (cs.getD · 0) j : Int))
theorem gm_zero (cs : List Int) : gm cs 0 = fun _ => none := rfl
theorem gm_known {cs : List Int} {i : Nat} (h : firstOf (cs.getD · 0) i < i) : gm cs i (cs.getD i 0) = some (classOf (cs.getD · 0) i : Int) := by
  unfold gm;unfold firstOf at h;cases hf : (List.range i).find? (fun j => decide (cs.getD j 0 = cs.getD i 0)) with
  | none => rw [hf] at h; simp at h
  | some j =>
    have hj := (List.find?_range_eq_some.1 hf).1;simp only [Option.map_some];congr 2;rw [class_eq];simpa using hj
theorem gm_new {cs : List Int} {i : Nat} (h : ¬ firstOf (cs.getD · 0) i < i) : gm cs i (cs.getD i 0) = none := by
  unfold gm;cases hf : (List.range i).find? (fun j => decide (cs.getD j 0 = cs.getD i 0)) with
  | none => rfl
  | some j =>
    have h1 := List.find?_range_eq_some.1 hf;have h2 := fo_min (cs.getD · 0) i j (by simpa using h1.1);have := List.mem_range.1 h1.2.1;omega
theorem gm_succ (cs : List Int) (i : Nat) (o : Int) : gm cs (i + 1) o = if (gm cs i o).isSome then gm cs i o else if o = cs.getD i 0 then some (classOf (cs.getD · 0) i : Int) else none := by
  unfold gm;rw [List.range_succ, List.find?_append];cases hf : (List.range i).find? (fun j => decide (cs.getD j 0 = o)) with
  | none =>
    by_cases e : o = cs.getD i 0
    · subst e; simp
    · have e' : ¬ cs.getD i 0 = o := fun h => e h.symm;simp only [Option.map_none, Option.isSome_none, Bool.false_eq_true, if_false, if_neg e, Option.none_or];rw [List.find?_cons_of_neg (by simpa using e')]; rfl
  | some j => simp
theorem gm_succ_known {cs : List Int} {i : Nat} (h : firstOf (cs.getD · 0) i < i) : gm cs (i + 1) = gm cs i := by
  funext o
  rw [gm_succ];split
  · rfl
  · rename_i hn;split
    · rename_i e; subst e; rw [gm_known h] at hn; simp at hn
    · simp at hn; exact hn.symm
theorem gm_succ_new {cs : List Int} {i : Nat} (h : ¬ firstOf (cs.getD · 0) i < i) : gm cs (i + 1) = fun o => if o = cs.getD i 0 then some (nF (cs.getD · 0) i : Int) else gm cs i o := by
  funext o
  have hf : firstOf (cs.getD · 0) i = i := by have := fo_le (cs.getD · 0) i; omega
  rw [gm_succ, class_new hf];by_cases e : o = cs.getD i 0
  · subst e; rw [gm_new h]; simp
  · simp only [if_neg e];split
    · rfl
    · rename_i hn; simp at hn; exact hn.symm
def mixed (cs : List Int) (i : Nat) : List Int := partF (cs.getD · 0) i ++ cs.drop i
theorem mixed_zero (cs : List Int) : mixed cs 0 = cs := by simp [mixed, partF]
theorem mixed_all (cs : List Int) : mixed cs cs.length = partF (cs.getD · 0) cs.length := by simp [mixed]
theorem mixed_at {cs : List Int} {i : Nat} (h : i < cs.length) : (mixed cs i)[i]? = some (cs.getD i 0) := by
  unfold mixed;rw [List.getElem?_append_right (by rw [partF_length]; omega), partF_length, Nat.sub_self, List.getElem?_drop];simp [h]
theorem mixed_succ {cs : List Int} {i : Nat} (h : i < cs.length) : mixed cs (i + 1) = (mixed cs i).set i (classOf (cs.getD · 0) i : Int) := by
  unfold mixed;rw [List.set_append_right _ _ (by rw [partF_length]; omega), partF_length, Nat.sub_self, partF_succ, List.append_assoc];congr 1;rw [List.drop_eq_getElem_cons h];rfl
-- the first part: parting by a set
structure In1 (n : Nat) (c0 : List Int) (K0 : Int) (S : List Int) (p : Nat) (c : List Int) (K : Int) (f : Int → Option Int) : Prop where
  len : c.length = n
  fb : ∀ o v, f o = some v → K0 ≤ v ∧ v < K
  inj : ∀ o o' v, f o = some v → f o' = some v → o = o'
  inn : ∀ i, i < n → (i : Int) ∈ S.take p → f (c0.getD i 0) = some (c.getD i 0)
  out : ∀ i, i < n → (i : Int) ∉ S.take p → c.getD i 0 = c0.getD i 0
  kb : K0 ≤ K ∧ K ≤ K0 + p
theorem In1.start {n : Nat} {c0 : List Int} (K0 : Int) (S : List Int) (h : c0.length = n) : In1 n c0 K0 S 0 c0 K0 (fun _ => none) :=
  ⟨h, (fun o v h => by cases h), (fun o o' v h => by cases h), (fun i _ h => by simp at h), fun i _ _ => rfl, by omega⟩
theorem mem_take_succ {S : List Int} {p : Nat} {x : Int} (h : S[p]? = some x) (y : Int) : y ∈ S.take (p + 1) ↔ y ∈ S.take p ∨ y = x := by
  rw [List.take_add_one, h]; simp
theorem not_mem_take {S : List Int} (hS : Srt S) {p : Nat} {x : Int} (h : S[p]? = some x) : x ∉ S.take p := by
  intro hm;obtain ⟨j, hj⟩ := List.getElem?_of_mem hm;rw [List.getElem?_take] at hj;split at hj
  · rename_i hlt;have := srt_at hS hlt hj h; omega
  · cases hj
section
variable {n p : Nat} {c0 S c : List Int} {K0 K x : Int} {f : Int → Option Int}
theorem In1.skip (h : In1 n c0 K0 S p c K f) (hx : S[p]? = some x) (hr : x < 0 ∨ (n : Int) ≤ x) : In1 n c0 K0 S (p + 1) c K f := by
  refine ⟨h.len, h.fb, h.inj, fun i hi hm => ?_, fun i hi hm => ?_, by have := h.kb; omega⟩
  · rcases (mem_take_succ hx _).1 hm with hm | e
    · exact h.inn i hi hm
    · omega
  · exact h.out i hi (fun h' => hm ((mem_take_succ hx _).2 (.inl h')))
theorem getD_set (c : List Int) (q i : Nat) (v : Int) (hq : q < c.length) : (c.set q v).getD i 0 = if i = q then v else c.getD i 0 := by
  simp only [List.getD_eq_getElem?_getD, List.getElem?_set];by_cases e : q = i
  · subst e; simp [hq]
  · rw [if_neg e, if_neg (fun h => e h.symm)]
theorem In1.here (h : In1 n c0 K0 S p c K f) (hS : Srt S) {q : Nat} (hx : S[p]? = some (q : Int)) (hq : q < n) : c.getD q 0 = c0.getD q 0 := h.out q hq (not_mem_take hS hx)
theorem In1.old (h : In1 n c0 K0 S p c K f) (hS : Srt S) {q : Nat} (hx : S[p]? = some (q : Int)) (hq : q < n) {v : Int} (hf : f (c.getD q 0) = some v) : In1 n c0 K0 S (p + 1) (c.set q v) K f := by
  have hh := h.here hS hx hq;refine ⟨by rw [List.length_set, h.len], h.fb, h.inj, fun i hi hm => ?_, fun i hi hm => ?_, by have := h.kb; omega⟩
  · rw [getD_set _ _ _ _ (by rw [h.len]; exact hq)];rcases (mem_take_succ hx _).1 hm with hm | e
    · by_cases e : i = q
      · subst e; rw [if_pos rfl, ← hh]; exact hf
      · rw [if_neg e]; exact h.inn i hi hm
    · obtain rfl : i = q := by omega
      rw [if_pos rfl, ← hh]; exact hf
  · have e : i ≠ q := fun e => hm ((mem_take_succ hx _).2 (.inr (by rw [e])));rw [getD_set _ _ _ _ (by rw [h.len]; exact hq), if_neg e];exact h.out i hi (fun h' => hm ((mem_take_succ hx _).2 (.inl h')))
theorem In1.new (h : In1 n c0 K0 S p c K f) (hS : Srt S) {q : Nat} (hx : S[p]? = some (q : Int)) (hq : q < n) (hf : f (c.getD q 0) = none) :
    In1 n c0 K0 S (p + 1) (c.set q K) (K + 1) (fun j => if j = c.getD q 0 then some K else f j) := by
  have hh := h.here hS hx hq;have hkb := h.kb;refine ⟨by rw [List.length_set, h.len], fun o v hv => ?_, fun o o' v h1 h2 => ?_, fun i hi hm => ?_, fun i hi hm => ?_, by omega⟩
  · split at hv
    · injection hv with hv; omega
    · have := h.fb o v hv; omega
  · split at h1 <;> split at h2
    · rename_i e1 e2; rw [e1, e2]
    · injection h1 with h1; have := h.fb o' v h2; omega
    · injection h2 with h2; have := h.fb o v h1; omega
    · exact h.inj o o' v h1 h2
  · rw [getD_set _ _ _ _ (by rw [h.len]; exact hq)];rcases (mem_take_succ hx _).1 hm with hm | e
    · by_cases e : i = q
      · subst e; rw [if_pos hh.symm, if_pos rfl]
      · have hi2 := h.inn i hi hm;rw [if_neg e, if_neg (fun e' => by rw [e', hf] at hi2; cases hi2)];exact hi2
    · obtain rfl : i = q := by omega
      rw [if_pos hh.symm, if_pos rfl]
  · have e : i ≠ q := fun e => hm ((mem_take_succ hx _).2 (.inr (by rw [e])));rw [getD_set _ _ _ _ (by rw [h.len]; exact hq), if_neg e];exact h.out i hi (fun h' => hm ((mem_take_succ hx _).2 (.inl h')))
end
structure Ph (n : Nat) (xss : List (List Int)) (k : Nat) (c : List Int) (K : Int) : Prop where
  len : c.length = n
  bd : ∀ i, i < n → 0 ≤ c.getD i 0 ∧ c.getD i 0 < K
  eqv : ∀ i j, i < n → j < n → (c.getD i 0 = c.getD j 0 ↔ sig (xss.take k) i = sig (xss.take k) j)
  kb : 1 ≤ K ∧ K ≤ 1 + 1000 * k
theorem Ph.start (n : Nat) (xss : List (List Int)) : Ph n xss 0 (List.replicate n 0) 1 := by
  refine ⟨by simp, fun i hi => ?_, fun i j hi hj => ?_, by omega⟩
  · simp [hi]
  · simp [hi, hj, sig]
theorem In1.bd {n p k : Nat} {c0 S c : List Int} {K0 K : Int} {f : Int → Option Int} {xss : List (List Int)} (h : In1 n c0 K0 S p c K f) (h0 : Ph n xss k c0 K0) {i : Nat} (hi : i < n) : 0 ≤ c.getD i 0 ∧ c.getD i 0 < K := by
  have hk := h.kb;have h1 := h0.kb;by_cases hm : (i : Int) ∈ S.take p
  · have := h.fb _ _ (h.inn i hi hm); omega
  · rw [h.out i hi hm]; have := h0.bd i hi; omega
theorem Ph.next {n k : Nat} {xss : List (List Int)} {c0 c xs : List Int} {K0 K : Int} {f : Int → Option Int} (h0 : Ph n xss k c0 K0) (hx : xss[k]? = some xs) (h : In1 n c0 K0 (ofL xs) (ofL xs).length c K f) (hl : (ofL xs).length ≤ 1000) : Ph n xss (k + 1) c K := by
  have hk := h.kb;have h1 := h0.kb;have inn := h.inn;have out := h.out;rw [List.take_length] at inn out;refine ⟨h.len, fun i hi => h.bd h0 hi, fun i j hi hj => ?_, by omega⟩;rw [sig_snoc hx, ← h0.eqv i j hi hj];have mi := ofL_mem xs i;have mj := ofL_mem xs j;by_cases ai : (i : Int) ∈ ofL xs <;> by_cases aj : (j : Int) ∈ ofL xs
  · have e1 := inn i hi ai;have e2 := inn j hj aj;constructor
    · intro e;rw [← e] at e2;exact ⟨h.inj _ _ _ e1 e2, by rw [← mi, ← mj]; simp [ai, aj]⟩
    · rintro ⟨e, _⟩;rw [e, e2] at e1; injection e1 with e1; exact e1.symm
  · have e1 := h.fb _ _ (inn i hi ai);have e2 := out j hj aj;have e3 := h0.bd j hj;constructor
    · intro e; omega
    · rintro ⟨_, e⟩; rw [← mi, ← mj] at e; exact absurd (e.1 ai) aj
  · have e1 := h.fb _ _ (inn j hj aj);have e2 := out i hi ai;have e3 := h0.bd i hi;constructor
    · intro e; omega
    · rintro ⟨_, e⟩; rw [← mi, ← mj] at e; exact absurd (e.2 aj) ai
  · rw [out i hi ai, out j hj aj];constructor
    · intro e; exact ⟨e, by rw [← mi, ← mj]; simp [ai, aj]⟩
    · exact fun e => e.1
theorem Ph.last {n : Nat} {xss : List (List Int)} {c : List Int} {K : Int} (h : Ph n xss xss.length c K) : partF (c.getD · 0) n = partL xss n := by
  have e := h.eqv;rw [List.take_length] at e;exact partF_congr e
theorem srt_one (xs : List Int) : Srt (xs.take 1) := by cases xs <;> simp [Srt]
theorem srt_step {xs : List Int} {p : Nat} {x y : Int} (h : Srt (xs.take (p + 1))) (hx : xs[p]? = some x) (hy : xs[p + 1]? = some y) (hxy : x < y) : Srt (xs.take (p + 2)) := by
  have e : xs.take (p + 2) = xs.take (p + 1) ++ [y] := by rw [List.take_add_one, hy]; rfl
  rw [e];refine srt_snoc h fun z hz => ?_;obtain ⟨i, hi, rfl⟩ := List.mem_iff_getElem.1 hz;have hx2 : (xs.take (p + 1))[p]? = some x := by rw [List.getElem?_take_of_lt (by omega)]; exact hx
  by_cases e : i = p
  · subst e;have := List.getElem?_eq_getElem hi;rw [this] at hx2; injection hx2 with hx2; omega
  · have := srt_at h (i := i) (j := p) (by simp at hi; omega) (List.getElem?_eq_getElem hi) hx2;omega
set_option maxHeartbeats 400000 in
theorem right_c (A : Option Addr) (n c : Nat) (xs : List Int) (w : World) (hA : Rd w w.heap.size A n xs) (hn : n ≤ 1000000000) :
    Calls Tryz.prog 60 #[.slice A n c] w fun e w' => e = .returned (.bool (decide (Srt xs))) ∧ ∃ k, w' = w.drewN k := by
  have HL := Lib.hid hA.len;go_enter Tryz.func60, Tryz.ntmps60;go_wp2;go_loopw [3] (fun i wr => ∃ q d : Nat, i = .int .i64 q ∧ 1 ≤ q ∧ (q ≤ n ∨ q = 1) ∧ Srt (xs.take q) ∧ wr = w.drewN d) (fun i _ => n - (intOf i).toNat)
  case atStart => exact ⟨1, 0, rfl, by omega, by omega, srt_one xs, rfl⟩
  case round =>
    obtain ⟨q, d, rfl, hq1, hq2, hs, rfl⟩ := hrel;have HS := Lib.hid hs; clear hs;by_cases hlt : q < n
    · obtain ⟨p, rfl⟩ : ∃ p, q = p + 1 := ⟨q - 1, by omega⟩;obtain ⟨b1, o1, rfl, _, hc1⟩ := hA.pos (by omega);obtain ⟨x, hx⟩ := getD_some xs p (by have := HL.out; omega);obtain ⟨y, hy⟩ := getD_some xs (p + 1) (by have := HL.out; omega);have g1 := hc1 p x hx;have g2 := hc1 (p + 1) y hy;have HX := Lib.hid hx; have HY := Lib.hid hy;clear hx hy hc1 hq2;have p0 : (0 : Int) ≤ (p : Int) := by omega
      have pn : (p : Int) < (n : Int) := by omega
      have p1n : (p : Int) + 1 < (n : Int) := by omega
      have pwr : IntKind.i64.wrap ((p : Int) + 1 - 1) = (p : Int) := by rw [IntWalk.i64_in _ (by omega)]; omega
      have PWR := Lib.hid pwr; clear pwr;by_cases hxy : x < y
      · have t : decide (y ≤ x) = false := by simp; omega
        go_wp2;go_quiet (fail);go_wp2;go_roundw
        case rel => exact ⟨p + 2, d + nq, by go_num, by omega, by omega, srt_step HS.out HX.out HY.out hxy, by simp⟩
        case measure => simp [intOf]; omega
      · have t : decide (y ≤ x) = true := by simp; omega
        go_wp2;go_quiet (fail);go_wp2;go_ret;refine ⟨ret_bool ?_, drN _ _ _⟩;symm; rw [decide_eq_false_iff_not];intro h;have := srt_at h (by omega) HX.out HY.out;omega
    · go_wp2;go_ret;refine ⟨ret_bool ?_, d, rfl⟩;have e1 : xs.take q = xs := List.take_of_length_le (by have := HL.out; omega);have := HS.out;rw [e1] at this;simp [this]
theorem right_b (A : Option Addr) (n c : Nat) (xs : List Int) (w : World) (hA : Rd w w.heap.size A n xs) (hn : n ≤ 1000000000) :
    Calls Tryz.prog 60 #[.slice A n c] w fun e w' => e = .returned (.bool (decide (Srt xs))) ∧ Below w.heap.size w w' :=
  (right_c A n c xs w hA hn).mono fun e w' ⟨he, k, hk⟩ => ⟨he, by rw [hk]; exact below_drewN (Below.refl _ _) k⟩
theorem set_c (A : Option Addr) (n c : Nat) (xs : List Int) (w : World) (hA : Rd w w.heap.size A n xs) (hn : n ≤ 1000000) :
    Calls Tryz.prog 37 #[.slice A n c] w fun e w' => ∃ A' m c', e = .returned (.slice A' m c') ∧ m ≤ n ∧ Rd w' w'.heap.size A' m (ofL xs) ∧ Below w.heap.size w w' := by
  by_cases hs : Srt xs
  · have e := ofL_of_srt hs;have t : decide (Srt xs) = true := decide_eq_true hs;have HE := Lib.hid e;clear e hs;go_enter Tryz.func37, Tryz.ntmps37;go_wp2_with fail;refine (right_b _ _ _ _ _ hA (by omega)).mono ?_;rintro e w1 ⟨rfl, hb1⟩;have r1 := hA.call (Nat.le_refl _) hb1;go_wp2;go_ret;exact ⟨_, _, _, rfl, Nat.le_refl _, by rw [HE.out]; exact r1, hb1⟩
  · have t : decide (Srt xs) = false := decide_eq_false hs;clear hs;go_enter Tryz.func37, Tryz.ntmps37;go_wp2_with fail;refine (right_b _ _ _ _ _ hA (by omega)).mono ?_;rintro e w1 ⟨rfl, hb1⟩;have r1 := hA.call (Nat.le_refl _) hb1;clear hA;go_wp2_with fail;refine (of_c _ _ _ _ _ r1 hn).mono ?_;rintro e w2 ⟨A2, m2, c2, rfl, hm2, ho2, hb2⟩;have r2 := ho2.rd;have b2 := below_call hb1 hb2;go_wp2;go_ret;exact ⟨_, _, _, rfl, hm2, r2, b2⟩
open Go.RowKit Go.Maps
theorem law3 : Keyed Tryz.prog 3 := int_keyed Tryz.underlying3
theorem zero3 (w : World) : (zeroValue 3).run Tryz.prog w = .ok (.int .i64 0) w := by kernel_rfl
def Mp (w : World) (b n : Nat) (f : Int → Option Int) (sz : Nat) : Prop :=
  ∃ D : DataW Unit, w.ownsMap Tryz.prog 3 (plainElem Tryz.prog 3) b n D ∧ Tidy D ∧ Maps.size D = sz ∧ ∀ k : Int, Maps.has D (.int .i64 k) = (f k).isSome ∧ ∀ v, f k = some v → D.atKey (.int .i64 k) (.lit (.int .i64 0)) = .lit (.int .i64 v)
theorem Mp.made (w : World) : Mp (w.alloc (.map #[] 0)) w.heap.size 0 (fun _ => none) 0 :=
  ⟨.map [], World.ownsMap_made _ _ _ _, tidy_empty, rfl, fun k => ⟨rfl, fun v h => by cases h⟩⟩
theorem Mp.kept {w w' : World} {b n sz : Nat} {f : Int → Option Int} (h : Mp w b n f sz) {row : Option Nat} (hg : w.grownBy w' row) (hne : some b ≠ row) : Mp w' b n f sz := by
  obtain ⟨D, h1, h2⟩ := h; exact ⟨D, h1.kept hg hne, h2⟩
theorem Mp.at {f : Int → Option Int} {D : DataW Unit} (h : ∀ k : Int, Maps.has D (.int .i64 k) = (f k).isSome ∧ ∀ v, f k = some v → D.atKey (.int .i64 k) (.lit (.int .i64 0)) = .lit (.int .i64 v)) {k c : Int}
    (hc : D.atKey (.int .i64 k) (.lit (.int .i64 0)) = .lit (.int .i64 c)) : c = (f k).getD 0 := by
  obtain ⟨h1, h2⟩ := h k;cases hf : f k with
  | none =>
    rw [hf] at h1;rw [atKey_of_not_has h1] at hc;injection hc with hc; injection hc with _ hc; exact hc.symm
  | some v =>
    rw [h2 v hf] at hc;injection hc with hc; injection hc with _ hc; exact hc.symm
theorem mpLookOk {ops : Array Oper} {rest : List Oper} {o : Oper} {a : Act} {Q : Exit → Act → World → Prop} (hgd : o.guard = none) (m x : Operand) (ho : o.op = Op.lookup 124 m x true) (w : World) (b n sz : Nat) (f : Int → Option Int) (k : Int)
    (hm : a.eval m = .map (some b)) (hx : a.eval x = .int .i64 k) (hk : (Lit.int .i64 k).wf = true) (h : Mp w b n f sz)
    (hK : wpList Tryz.prog ops Q rest (a.put o.dst (.tuple #[.int .i64 ((f k).getD 0), .bool (f k).isSome])) w) : wpList Tryz.prog ops Q (o :: rest) a w := by
  obtain ⟨D, h1, h2, h3, h4⟩ := h;refine wpList_lookup_own_ok_int w hgd m x 124 ho 3 3 .i64 law3 Tryz.underlying124 Tryz.underlying3 (zero3 _) b n D hm h1 _ _ hx (keyOf_int_mk Tryz.underlying3 hk) ?_;intro c hc _;rw [(h4 k).1, Mp.at h4 hc];exact hK
theorem mpGet {ops : Array Oper} {rest : List Oper} {o : Oper} {a : Act} {Q : Exit → Act → World → Prop} (hgd : o.guard = none) (m x : Operand) (ho : o.op = Op.lookup 124 m x false) (w : World) (b n sz : Nat) (f : Int → Option Int) (k : Int)
    (hm : a.eval m = .map (some b)) (hx : a.eval x = .int .i64 k) (hk : (Lit.int .i64 k).wf = true) (h : Mp w b n f sz)
    (hK : wpList Tryz.prog ops Q rest (a.put o.dst (.int .i64 ((f k).getD 0))) w) : wpList Tryz.prog ops Q (o :: rest) a w := by
  obtain ⟨D, h1, h2, h3, h4⟩ := h;refine wpList_lookup_own_int w hgd m x 124 ho 3 3 .i64 law3 Tryz.underlying124 Tryz.underlying3 (zero3 _) b n D hm h1 _ _ hx (keyOf_int_mk Tryz.underlying3 hk) ?_;intro c hc _;rw [Mp.at h4 hc];exact hK
theorem mpLen {ops : Array Oper} {rest : List Oper} {o : Oper} {a : Act} {Q : Exit → Act → World → Prop} (hgd : o.guard = none) (m : Operand) (ho : o.op = Op.call { callee := Callee.builtin Builtin.len, args := #[m], argTypes := #[124] }) (w : World) (b n sz : Nat) (f : Int → Option Int)
    (hm : a.eval m = .map (some b)) (h : Mp w b n f sz) (hK : wpList Tryz.prog ops Q rest (a.put o.dst (.int .i64 (sz : Int))) w) : wpList Tryz.prog ops Q (o :: rest) a w := by
  obtain ⟨D, h1, h2, h3, h4⟩ := h;refine wpList_len_own w hgd m 124 ho 3 3 Tryz.underlying124 _ b n D hm h1 ?_;rw [h3]; exact hK
theorem mpPut {ops : Array Oper} {rest : List Oper} {o : Oper} {a : Act} {Q : Exit → Act → World → Prop} (hgd : o.guard = none) (m x v : Operand) (ho : o.op = Op.mapUpdate 124 m x v) (w : World) (b n sz : Nat) (f : Int → Option Int) (k z : Int)
    (hm : a.eval m = .map (some b)) (hx : a.eval x = .int .i64 k) (hv : a.eval v = .int .i64 z) (hk : (Lit.int .i64 k).wf = true) (hz : (Lit.int .i64 z).wf = true) (hn : n < maxLen) (h : Mp w b n f sz)
    (hK : ∀ w', Mp w' b (n + 1) (fun j => if j = k then some z else f j) (if (f k).isSome then sz else sz + 1) → w.grownBy w' (some b) → wpList Tryz.prog ops Q rest (a.put o.dst undef) w') : wpList Tryz.prog ops Q (o :: rest) a w := by
  obtain ⟨D, h1, h2, h3, h4⟩ := h;refine wpList_mapUpdate_own w hgd m x v 124 ho 3 3 law3 Tryz.underlying124 _ b n D hm h1 hn _ _ _ hx hv (keyOf_int_mk Tryz.underlying3 hk) _ [] (plainElem_int Tryz.underlying3 hz) ?_;intro w' h1' hg;have hkl : WideAt.IsKeyLit (Lit.int .i64 k) := trivial;refine hK w' ⟨_, h1', h2.put hkl _, ?_, fun j => ?_⟩ hg
  · rw [size_put h2, (h4 k).1, h3]
  · by_cases e : j = k
    · subst e;refine ⟨by rw [has_put_same h2.isMap hkl]; simp, fun u hu => ?_⟩;simp at hu; subst hu;exact atKey_put_same h2.isMap hkl _ _
    · have hne : (Lit.int .i64 j) ≠ (Lit.int .i64 k) := fun h => by injection h with _ h; exact e h
      rw [has_put_other hne, atKey_put_other hne];simp only [if_neg e];exact h4 j
theorem Rd.grown {w w' : World} {B n : Nat} {A : Option Addr} {xs : List Int} {row : Option Nat} (h : Rd w B A n xs) (hg : w.grownBy w' row) (hB : B ≤ w.heap.size) (hne : 0 < n → ∀ b o, A = some ⟨b, o, none⟩ → row ≠ some b) : Rd w' B A n xs :=
  ⟨h.1, fun hn => by
    obtain ⟨b, o, e, hb, hc⟩ := h.2 hn;refine ⟨b, o, e, hb, fun i x hx => ?_⟩;rw [World.cell?_of_block (hg.block b (by omega) (fun e2 => hne hn b o e e2.symm))];exact hc i x hx⟩
theorem grown_of_below {w w' : World} (h : Below w.heap.size w w') : w.grownBy w' none := ⟨h.os, h.tape, h.output, h.size, fun i hi _ => h.block i hi⟩
theorem set_x (A : Option Addr) (n c : Nat) (xs : List Int) (w : World) (hA : Rd w w.heap.size A n xs) (hn : n ≤ 1000000) :
    Calls Tryz.prog 37 #[.slice A n c] w fun e w' => ∃ A' m c', e = .returned (.slice A' m c') ∧ m ≤ n ∧ Rd w' w'.heap.size A' m (ofL xs) ∧ (A' = A ∨ ∀ b o, A' = some ⟨b, o, none⟩ → w.heap.size ≤ b) ∧ Below w.heap.size w w' := by
  by_cases hs : Srt xs
  · have e := ofL_of_srt hs;have t : decide (Srt xs) = true := decide_eq_true hs;have HE := Lib.hid e;clear e hs;go_enter Tryz.func37, Tryz.ntmps37;go_wp2_with fail;refine (right_b _ _ _ _ _ hA (by omega)).mono ?_;rintro e w1 ⟨rfl, hb1⟩;have r1 := hA.call (Nat.le_refl _) hb1;go_wp2;go_ret;exact ⟨_, _, _, rfl, Nat.le_refl _, by rw [HE.out]; exact r1, .inl rfl, hb1⟩
  · have t : decide (Srt xs) = false := decide_eq_false hs;clear hs;go_enter Tryz.func37, Tryz.ntmps37;go_wp2_with fail;refine (right_b _ _ _ _ _ hA (by omega)).mono ?_;rintro e w1 ⟨rfl, hb1⟩;have r1 := hA.call (Nat.le_refl _) hb1;clear hA;go_wp2_with fail;refine (of_c _ _ _ _ _ r1 hn).mono ?_;rintro e w2 ⟨A2, m2, c2, rfl, hm2, ho2, hb2⟩;have r2 := ho2.rd;have b2 := below_call hb1 hb2;have l2 := ho2.lt;have L2 := Lib.hid l2;clear l2;go_wp2;go_ret;exact ⟨_, _, _, rfl, hm2, r2, .inr (fun b o e => Nat.le_trans hb1.size (L2.out b o none e).1), b2⟩
def Rds (w : World) (B : Nat) (A : Option Addr) (m : Nat) (xss : List (List Int)) : Prop :=
  xss.length = m ∧ (0 < m → ∃ b o, A = some ⟨b, o, none⟩ ∧ b < B ∧ ∀ (i : Nat) (xs : List Int), xss[i]? = some xs → ∃ Ai ni ci, w.cell? ⟨b, o + i, none⟩ = some (.slice Ai ni ci) ∧ Rd w B Ai ni xs ∧ ni ≤ ci ∧ ci ≤ 9223372036854775807)
section
variable {w w' : World} {B B' m : Nat} {A : Option Addr} {xss : List (List Int)}
theorem Rds.below (h : Rds w B A m xss) (hb : Below B w w') : Rds w' B A m xss :=
  ⟨h.1, fun hn => by
    obtain ⟨b, o, e, hB, hc⟩ := h.2 hn;refine ⟨b, o, e, hB, fun i xs hx => ?_⟩;obtain ⟨Ai, ni, ci, h1, h2, h3⟩ := hc i xs hx;exact ⟨Ai, ni, ci, (hb.cell hB).trans h1, h2.below hb, h3⟩⟩
theorem Rds.pos (h : Rds w B A m xss) (hn : 0 < m) : ∃ b o, A = some ⟨b, o, none⟩ ∧ b < B ∧ ∀ (i : Nat) (xs : List Int), xss[i]? = some xs → ∃ Ai ni ci, w.cell? ⟨b, o + i, none⟩ = some (.slice Ai ni ci) ∧ Rd w B Ai ni xs ∧ ni ≤ ci ∧ ci ≤ 9223372036854775807 := h.2 hn
end
structure PS (w : World) (base g b n : Nat) (cl : List Int) (q : Nat) (f : Int → Option Int) (sz : Nat) (A : Option Addr) (m : Nat) (S : List Int) : Prop where
  o : Ow w base (some ⟨g, 0, none⟩) n n cl
  mp : Mp w b q f sz
  r : Rd w w.heap.size A m S
  ra : 0 < m → ∀ c o, A = some ⟨c, o, none⟩ → c ≠ g ∧ c ≠ b
  gb : g ≠ b
section
variable {w w' : World} {base g b n q sz m : Nat} {cl S : List Int} {f : Int → Option Int} {A : Option Addr}
theorem PS.store (h : PS w base g b n cl q f sz A m S) (j : Nat) (v : Int) : PS (w.setCell ⟨g, j, none⟩ (.int .i64 v)) base g b n (cl.set j v) q f sz A m S := by
  have hg : w.grownBy (w.setCell ⟨g, j, none⟩ (.int .i64 v)) (some g) := grownBy_set (World.grownBy.refl w _) j _;have hs : (w.setCell ⟨g, j, none⟩ (.int .i64 v)).heap.size = w.heap.size := by simp
  refine ⟨h.o.stored j v, h.mp.kept hg (by have := h.gb; simp; omega), ?_, h.ra, h.gb⟩;rw [hs];exact h.r.grown hg (Nat.le_refl _) (fun hm b o e => by have := (h.ra hm b o e).1; simp; omega)
theorem PS.put (h : PS w base g b n cl q f sz A m S) {f' : Int → Option Int} {q' sz' : Nat} (hm : Mp w' b q' f' sz') (hg : w.grownBy w' (some b)) : PS w' base g b n cl q' f' sz' A m S := by
  refine ⟨h.o.keep (fun c e => ?_), hm, (h.r.grown hg (Nat.le_refl _) (fun hm b o e => by have := (h.ra hm b o e).2; simp; omega)).more hg.size, h.ra, h.gb⟩;injection e with e; injection e with e1; subst e1;exact hg.block g (h.o.lt g 0 none rfl).2 (by have := h.gb; simp; omega)
end
set_option maxRecDepth 100000 in
set_option maxHeartbeats 4000000 in
theorem part_c (n : Nat) (A : Option Addr) (m c : Nat) (xss : List (List Int)) (w : World) (hR : Rds w w.heap.size A m xss) (hn1 : 1 ≤ n) (hn2 : n ≤ 65536) (hm : m ≤ 100) (hl : ∀ xs ∈ xss, xs.length ≤ 1000) :
    Calls Tryz.prog 20 #[.int .i64 n, .slice A m c] w fun e w' => ∃ A' c', e = .returned (.slice A' n c') ∧ Ow w' w.heap.size A' n c' (partL xss n) ∧ Below w.heap.size w w' := by
  have HLL := Lib.hid hl;have HXL := Lib.hid hR.1;clear hl;have hmm := @run_makeMap Tryz.prog;go_enter Tryz.func20, Tryz.ntmps20;go_wp2_with (at_make; refine mkI rfl _ _ rfl w w.heap.size n _ _ (by rfl) (by rfl) rfl rfl (by omega) (Nat.le_refl _) ?_; intro w1 ho1 hb1 hz1);go_loopw [6, 30] (fun K i wr => ∃ (k : Nat) (cl : List Int) (KK : Int), k ≤ m ∧ i = .int .i64 k ∧ K = .int .i64 KK ∧ Ph n xss k cl KK ∧ Ow wr w.heap.size (some ⟨w.heap.size, 0, none⟩) n n cl ∧ Below w.heap.size w wr) (fun _ i _ => m - (intOf i).toNat)
  case atStart => exact ⟨0, _, 1, by omega, rfl, rfl, Ph.start n xss, ho1, hb1⟩
  case round =>
    obtain ⟨k, c0, K0, hk, rfl, rfl, hPh, hO, hB⟩ := hrel;clear ho1 hb1 hz1;have bsr := hB.size;have HPh := Lib.hid hPh;have hkb := hPh.kb;clear hPh;obtain ⟨wo, rfl⟩ : ∃ wo : World, wo = wr := ⟨_, rfl⟩;by_cases hlt : k < m
    · have hRr := hR.below hB;obtain ⟨b, o, rfl, hbw, hc⟩ := hRr.pos (by omega);obtain ⟨xs, hxs⟩ : ∃ xs, xss[k]? = some xs := ⟨_, List.getElem?_eq_getElem (by rw [HXL.out]; exact hlt)⟩;obtain ⟨Ai, ni, ci, d1, r1, _, _⟩ := hc k xs hxs;have hxl := HLL.out xs (List.mem_of_getElem? hxs);rw [r1.len] at hxl;have HXS := Lib.hid hxs;clear hc hRr hxs;go_wp2_with fail;refine (set_x _ _ _ _ _ ((r1.more bsr).lit _) (by omega)).mono ?_;rintro e w2 ⟨A2, m2, c2, rfl, hm2, r2, hat2, hb2⟩;have gO := (hO.lt _ _ _ rfl).2;have hPS : PS w2 w.heap.size w.heap.size wo.heap.size n c0 0 (fun _ => none) 0 A2 m2 (ofL xs) := by
        refine ⟨(hO.alloc _).call hb2, (Mp.made wo).kept (grown_of_below hb2) (by simp), r2, fun h0 c o e => ?_, by omega⟩;rcases hat2 with e2 | e2
        · subst e2;obtain ⟨b', o', e3, hb3, _⟩ := r1.pos (by omega);rw [e] at e3; injection e3 with e3; injection e3 with e3; omega
        · have := e2 c o e; simp at this; omega
      have hB2 : Below w.heap.size w w2 := (hB.alloc bsr _).trans (hb2.mono (by simp; omega));have hol : (ofL xs).length = m2 := r2.len;have HOL := Lib.hid hol;have hI := In1.start K0 (ofL xs) HPh.out.len;clear hol r2 hat2 hb2 d1 hO hB r1;go_wp2_with fail;go_loopw [6, 38] (fun K i wr => ∃ (p q sz : Nat) (cl : List Int) (KK : Int) (f : Int → Option Int), p ≤ m2 ∧ q ≤ p ∧ i = .int .i64 p ∧ K = .int .i64 KK ∧ In1 n c0 K0 (ofL xs) p cl KK f ∧ PS wr w.heap.size w.heap.size wo.heap.size n cl q f sz A2 m2 (ofL xs) ∧ Below w.heap.size w wr) (fun _ i _ => m2 - (intOf i).toNat)
      case atStart => exact ⟨0, 0, 0, c0, K0, _, by omega, by omega, rfl, rfl, hI, hPS, hB2⟩
      case round =>
        obtain ⟨p, q, sz, cl, KK, f, hp, hq, rfl, rfl, hIn, hP, hBr⟩ := hrel;clear hPS hB2 hI;have bs2 := hBr.size;have hIk := hIn.kb;by_cases hpl : p < m2
        · obtain ⟨x, hx⟩ := getD_some (ofL xs) p (by rw [HOL.out]; exact hpl);obtain ⟨b2, o2, rfl, _, hc2⟩ := hP.r.pos (by omega);have d2 := hc2 p x hx;clear hc2;have hcase : x < 0 ∨ (n : Int) ≤ x ∨ (0 ≤ x ∧ x < n) := by omega
          rcases hcase with h0 | h0 | ⟨h0, h1⟩
          · have HI2 := Lib.hid (hIn.skip hx (.inl h0));have HP := Lib.hid hP;clear hx hIn hP;go_wp2;go_roundw
            case rel => exact ⟨p + 1, q, sz, cl, KK, f, by omega, by omega, by go_num, rfl, HI2.out, HP.out, hBr⟩
            case measure => simp [intOf]; omega
          · have HI2 := Lib.hid (hIn.skip hx (.inr h0));have HP := Lib.hid hP;have t0 : decide (x < 0) = false := by simp; omega
            clear hx hIn hP;go_wp2;go_roundw
            case rel => exact ⟨p + 1, q, sz, cl, KK, f, by omega, by omega, by go_num, rfl, HI2.out, HP.out, hBr⟩
            case measure => simp [intOf]; omega
          · obtain ⟨j, rfl⟩ : ∃ j : Nat, x = j := ⟨x.toNat, by omega⟩;have hj : j < n := by omega
            obtain ⟨u, hu⟩ := getD_some cl j (by rw [hIn.len]; exact hj);have hug := getD_of hu;have d3 := hP.o.cell hu;have hbd := hIn.bd HPh.out hj;rw [hug] at hbd;have hub := HPh.out.kb;have wfu : (Lit.int .i64 u).wf = true := WalkArith.wf_i64 (by omega);have wfK : (Lit.int .i64 KK).wf = true := WalkArith.wf_i64 (by omega);have WFU := Lib.hid wfu; have WFK := Lib.hid wfK;clear wfu wfK;cases hf : f u with
            | some v =>
              have HI2 := Lib.hid (hIn.old (ofL_srt xs) hx hj (v := v) (by rw [hug]; exact hf));have f3 := hP.o.frozen j;have hM := hP.mp;have HP2 := Lib.hid (hP.store j v);have HF := Lib.hid hf;clear hx hIn hP hug hu hf;go_wp2_with first
                | (at_lookup; refine mpLookOk rfl (.tmp 54) (.tmp 55) rfl wr wo.heap.size q sz f u (by rfl) (by rfl) WFU.out hM ?_; simp only [HF.out, Option.getD_some, Option.isSome_some])
                | (at_lookup; refine mpGet rfl (.tmp 68) (.tmp 69) rfl wr wo.heap.size q sz f u (by rfl) (by rfl) WFU.out hM ?_; simp only [HF.out, Option.getD_some])
              go_roundw
              case rel => exact ⟨p + 1, q, sz, _, KK, f, by omega, by omega, by go_num, rfl, HI2.out, HP2.out, hBr.setCell (Nat.le_refl _) _⟩
              case measure => simp [intOf]; omega
            | none =>
              have hn2 := hIn.new (ofL_srt xs) hx hj (by rw [hug]; exact hf);rw [hug] at hn2;have HI2 := Lib.hid hn2;have hM := hP.mp;have HP := Lib.hid hP;have HF := Lib.hid hf;have HU := Lib.hid hu;clear hx hIn hP hug hu hf hn2;go_wp2_with first
                | (at_lookup; refine mpLookOk rfl (.tmp 54) (.tmp 55) rfl wr wo.heap.size q sz f u (by rfl) (by rfl) WFU.out hM ?_; simp only [HF.out, Option.getD_none, Option.isSome_none])
                | (at_mapUpdate; refine mpPut rfl (.tmp 61) (.tmp 62) (.tmp 63) rfl wr wo.heap.size q sz f u KK (by rfl) (by rfl) (by rfl) WFU.out WFK.out (by unfold maxLen; omega) hM ?_; intro w5 hM5 hg5; have hP5 := HP.out.put hM5 hg5; have d5 := hP5.o.cell HU.out; have f5 := hP5.o.frozen j; have HP6 := Lib.hid (hP5.store j KK); have HG5 := Lib.hid hg5; clear hP5 hg5 d3)
                | (at_lookup; refine mpGet rfl (.tmp 68) (.tmp 69) rfl w5 wo.heap.size (q + 1) _ (fun j => if j = u then some KK else f j) u (by rfl) (by rfl) WFU.out hM5 ?_; simp only [if_true, Option.getD_some])
              go_roundw
              case rel => exact ⟨p + 1, q + 1, _, _, KK + 1, _, by omega, by omega, by go_num, by go_num, HI2.out, HP6.out, (hBr.grown HG5.out bs2 (fun k hk => by injection hk; omega)).setCell (Nat.le_refl _) _⟩
              case measure => simp [intOf]; omega
        · obtain rfl : p = m2 := by omega
          rw [← HOL.out] at hIn;have hNx := HPh.out.next HXS.out hIn (by rw [HOL.out]; omega);have HNX := Lib.hid hNx;have HO := Lib.hid hP.o;clear hIn hNx hP;go_wp2;go_roundw
          case rel => exact ⟨k + 1, cl, KK, by omega, by go_num, rfl, HNX.out, HO.out, hBr⟩
          case measure => simp [intOf]; omega
    · obtain rfl : k = m := by omega
      have gO := (hO.lt _ _ _ rfl).2;have hPh2 := HPh.out;rw [← HXL.out] at hPh2;have HLast := Lib.hid hPh2.last;have hcl := HPh.out.len;have HCL := Lib.hid hcl;have hPS : PS (wo.alloc (.map #[] 0)) w.heap.size w.heap.size wo.heap.size n (mixed c0 0) 0 (gm c0 0) (nF (c0.getD · 0) 0) none 0 [] := by
        rw [mixed_zero, gm_zero];exact ⟨hO.alloc _, Mp.made wo, Rd.nil, fun h => by omega, by omega⟩
      have hB2 := hB.alloc bsr (.map #[] 0);clear hcl hPh2 hO hB hkb;go_wp2;go_loopw [77] (fun i wr => ∃ (p q : Nat), p ≤ n ∧ q ≤ p ∧ i = .int .i64 p ∧ PS wr w.heap.size w.heap.size wo.heap.size n (mixed c0 p) q (gm c0 p) (nF (c0.getD · 0) p) none 0 [] ∧ Below w.heap.size w wr) (fun i _ => n - (intOf i).toNat)
      case atStart => exact ⟨0, 0, by omega, by omega, rfl, hPS, hB2⟩
      case round =>
        obtain ⟨p, q, hp, hq, rfl, hP, hBr⟩ := hrel;clear hPS hB2;have bs2 := hBr.size;by_cases hpl : p < n
        · have hmx := mixed_at (cs := c0) (i := p) (by rw [HCL.out]; exact hpl);have hms := mixed_succ (cs := c0) (i := p) (by rw [HCL.out]; exact hpl);have hbd := HPh.out.bd p hpl;have hub := HPh.out.kb;have hnl := nF_le (c0.getD · 0) p;have d3 := hP.o.cell hmx;have hcn := fun h => class_new (f := (c0.getD · 0)) (i := p) h;have hnf := nF_succ (c0.getD · 0) p;obtain ⟨u, hu⟩ : ∃ u, u = c0.getD p 0 := ⟨_, rfl⟩;have wfu : (Lit.int .i64 u).wf = true := WalkArith.wf_i64 (by rw [hu]; omega);have WFU := Lib.hid wfu;rw [← hu] at d3 hmx;have hM := hP.mp;by_cases hfo : firstOf (c0.getD · 0) p < p
          · have hf := gm_known hfo;have hg2 := gm_succ_known hfo;rw [if_neg (by omega)] at hnf;rw [← hu] at hf;obtain ⟨v, hv⟩ : ∃ v, v = classOf (c0.getD · 0) p := ⟨_, rfl⟩;rw [← hv] at hf hms;have f3 := hP.o.frozen p;have HP2 := Lib.hid (hP.store p (v : Int));have HF := Lib.hid hf;have HMS := Lib.hid hms; have HG2 := Lib.hid hg2; have HNF := Lib.hid hnf;clear hmx hms hbd hub hcn hnf hf hg2 hP hu hv wfu hfo;go_wp2_with first
              | (at_lookup; refine mpLookOk rfl (.tmp 83) (.tmp 84) rfl wr wo.heap.size q _ (gm c0 p) u (by rfl) (by rfl) WFU.out hM ?_; simp only [HF.out, Option.getD_some, Option.isSome_some])
              | (at_lookup; refine mpGet rfl (.tmp 96) (.tmp 97) rfl wr wo.heap.size q _ (gm c0 p) u (by rfl) (by rfl) WFU.out hM ?_; simp only [HF.out, Option.getD_some])
            go_roundw
            case rel => exact ⟨p + 1, q, by omega, by omega, by go_num, by rw [HMS.out, HG2.out, HNF.out]; exact HP2.out, hBr.setCell (Nat.le_refl _) _⟩
            case measure => simp [intOf]; omega
          · have hf := gm_new hfo;have hg2 := gm_succ_new hfo;have hfe : firstOf (c0.getD · 0) p = p := by have := fo_le (c0.getD · 0) p; omega
            rw [if_pos hfe] at hnf;rw [hcn hfe] at hms;rw [← hu] at hf hg2;obtain ⟨v, hv⟩ : ∃ v, v = nF (c0.getD · 0) p := ⟨_, rfl⟩;rw [← hv] at hms hg2 hnl hnf hM hP;have wfv : (Lit.int .i64 (v : Int)).wf = true := WalkArith.wf_i64 (by omega);have WFV := Lib.hid wfv;have HP := Lib.hid hP;have HF := Lib.hid hf;have HMX := Lib.hid hmx;have HMS := Lib.hid hms; have HG2 := Lib.hid hg2; have HNF := Lib.hid hnf;clear hmx hms hbd hub hcn hnf hf hg2 hP hu hv wfu hfo hfe wfv;go_wp2_with first
              | (at_lookup; refine mpLookOk rfl (.tmp 83) (.tmp 84) rfl wr wo.heap.size q v (gm c0 p) u (by rfl) (by rfl) WFU.out hM ?_; simp only [HF.out, Option.getD_none, Option.isSome_none])
              | (at_len; refine mpLen rfl (.tmp 92) rfl wr wo.heap.size q v (gm c0 p) (by rfl) hM ?_)
              | (at_mapUpdate; refine mpPut rfl (.tmp 90) (.tmp 91) (.tmp 93) rfl wr wo.heap.size q v (gm c0 p) u (v : Int) (by rfl) (by rfl) (by rfl) WFU.out WFV.out (by unfold maxLen; omega) hM ?_; intro w5 hM5 hg5; simp only [HF.out, Option.isSome_none, Bool.false_eq_true, if_false] at hM5; have hP5 := HP.out.put hM5 hg5; have d5 := hP5.o.cell HMX.out; have f5 := hP5.o.frozen p; have HP6 := Lib.hid (hP5.store p (v : Int)); have HG5 := Lib.hid hg5; clear hP5 hg5 d3)
              | (at_lookup; refine mpGet rfl (.tmp 96) (.tmp 97) rfl w5 wo.heap.size (q + 1) _ (fun j => if j = u then some (v : Int) else gm c0 p j) u (by rfl) (by rfl) WFU.out hM5 ?_; simp only [if_true, Option.getD_some])
            go_roundw
            case rel => exact ⟨p + 1, q + 1, by omega, by omega, by go_num, by rw [HMS.out, HG2.out, HNF.out]; exact HP6.out, (hBr.grown HG5.out bs2 (fun k hk => by injection hk; omega)).setCell (Nat.le_refl _) _⟩
            case measure => simp [intOf]; omega
        · obtain rfl : p = n := by omega
          have hO := hP.o;have e : mixed c0 p = partL xss p := by
            have := mixed_all c0;rw [HCL.out] at this; rw [this]; exact HLast.out
          rw [e] at hO;clear hP e;go_wp2;go_ret;exact ⟨_, _, rfl, hO, hBr⟩
end Go.Proofs.YtkmdakampkfioaaGreatDoor.S6
