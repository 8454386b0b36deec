/- Walks: Same, few; and further words on rows. -/
import Derived.Test.YtgcmedkaadagmaaDoorS6Base
import Derived.Test.YtgcmedkaadagmaaDoorShelf
import Derived.Deep.QuietTactic
import Derived.BigQuiet
import Derived.Laws.BitsAllLaws
import Derived.Laws.BitsLemmas
import Derived.Sort.OwnSortedInts
import Derived.Lib.RowBridge
namespace Go.Proofs.YtgcmedkaadagmaaDoor.S6
open Go.RowKit


theorem ret_int {k : IntKind} {a b : Int} (h : a = b) : Ending.returned (.int k a) = .returned (.int k b) := by rw [h]

theorem ret_bool {a b : Bool} (h : a = b) : Ending.returned (.bool a) = .returned (.bool b) := by rw [h]

theorem drN (w : World) (a b : Nat) : ∃ k, (w.drewN a).drewN b = w.drewN k := ⟨a + b, by simp⟩
theorem take_ne {xs ys : List Int} (k : Nat) (x y : Int) (hx : xs[k]? = some x) (hy : ys[k]? = some y) (h : x ≠ y) : xs ≠ ys := by
  rintro rfl; rw [hx] at hy; injection hy with hy; exact h hy
theorem take_snoc_eq {xs ys : List Int} (k : Nat) (x : Int) (hx : xs[k]? = some x) (hy : ys[k]? = some x) (h : xs.take k = ys.take k) : xs.take (k + 1) = ys.take (k + 1) := by
  rw [List.take_add_one, List.take_add_one, h, hx, hy]

set_option maxHeartbeats 400000 in
theorem same_c (A B : Option Addr) (n m c d : Nat) (xs ys : List Int) (w : World) (hA : Rd w w.heap.size A n xs) (hB : Rd w w.heap.size B m ys) (hn : n ≤ 1000000000) (hm : m ≤ 1000000000) :
    Calls Tryd.prog 51 #[.slice A n c, .slice B m d] w fun e w' => e = .returned (.bool (decide (xs = ys))) ∧ ∃ k, w' = w.drewN k := by
  by_cases hnm : n = m
  · subst hnm
    have hl1 := Lib.hid hA.len
    have hl2 := Lib.hid hB.len
    go_enter Tryd.func51, Tryd.ntmps51
    go_wp2
    go_loopw [5] (fun i wr => ∃ k d : Nat, k ≤ n ∧ i = .int .i64 k ∧ xs.take k = ys.take k ∧ wr = w.drewN d) (fun i _ => n - (intOf i).toNat)
    case atStart => exact ⟨0, 0, by omega, rfl, rfl, rfl⟩
    case round =>
      obtain ⟨k, d, hk, rfl, ht, rfl⟩ := hrel
      have HT := Lib.hid ht; clear ht
      by_cases hlt : k < n
      · obtain ⟨b1, o1, rfl, _, hc1⟩ := hA.pos (by omega)
        obtain ⟨b2, o2, rfl, _, hc2⟩ := hB.pos (by omega)
        obtain ⟨x, hx⟩ := getD_some xs k (by have := hl1.out; omega)
        obtain ⟨y, hy⟩ := getD_some ys k (by have := hl2.out; omega)
        have g1 := hc1 k x hx
        have g2 := hc2 k y hy
        have HX := Lib.hid hx; have HY := Lib.hid hy
        clear hx hy hc1 hc2
        have hkz : (0 : Int) ≤ (k : Int) := by omega
        have hkn : (k : Int) < (n : Int) := by omega
        by_cases hxy : x = y
        · subst hxy
          go_wp2
          go_quiet (fail)
          go_wp2
          go_roundw
          case rel => exact ⟨k + 1, _, by omega, by go_num, take_snoc_eq k x HX.out HY.out HT.out, rfl⟩
          case measure => simp [intOf]; omega
        · have hne : (x != y) = true := by rw [bne_iff_ne]; exact hxy
          go_wp2
          go_quiet (fail)
          go_wp2
          go_ret
          exact ⟨ret_bool (by have := take_ne k x y HX.out HY.out hxy; simp [this]), drN _ _ _⟩
      · go_wp2
        go_ret
        refine ⟨ret_bool ?_, _, rfl⟩
        have e1 : xs.take k = xs := List.take_of_length_le (by have := hl1.out; omega)
        have e2 : ys.take k = ys := List.take_of_length_le (by have := hl2.out; omega)
        have := HT.out
        rw [e1, e2] at this
        simp [this]
  · have hl1 := hA.len
    have hl2 := hB.len
    have hne : decide (xs = ys) = false := by
      simp; rintro rfl; omega
    have HNE := Lib.hid hne; clear hne hl1 hl2
    have ht : ((n : Int) != (m : Int)) = true := by rw [bne_iff_ne]; omega
    go_enter Tryd.func51, Tryd.ntmps51
    go_wp2
    go_ret
    exact ⟨ret_bool HNE.out.symm, 0, rfl⟩

theorem own_empty (w : World) : Ow (w.alloc (.cells #[] 3)) w.heap.size (some ⟨w.heap.size, 0, none⟩) 0 0 [] :=
  ⟨rfl, .inr ⟨w.heap.size, 0, #[], rfl, Nat.le_refl _, heap_alloc_new w _, Nat.le_refl _, by unfold maxLen; omega, rfl, rfl⟩⟩

theorem getD_of {xs : List Int} {k : Nat} {x : Int} (h : xs[k]? = some x) : xs.getD k 0 = x := by simp [h]

theorem rd_new (w : World) (xs : List Int) (cs : Array Value) (n : Nat) (hn : xs.length = n) (h : cs = (xs.map (Value.int .i64)).toArray) : Rd (w.alloc (.cells cs 3)) (w.heap.size + 1) (some ⟨w.heap.size, 0, none⟩) n xs := by
  subst h
  refine ⟨hn, fun _ => ⟨w.heap.size, 0, rfl, by omega, fun i x hx => ?_⟩⟩
  rw [World.cell?_alloc_new]
  simp [hx]

theorem rd_lit (w : World) (xs : List Int) (cs : Array Value) (n : Nat) (hn : xs.length = n) (h : cs = (xs.map (Value.int .i64)).toArray) : Rd (w.alloc (.cells cs 3)) (w.alloc (.cells cs 3)).heap.size (some ⟨w.heap.size, 0, none⟩) n xs := by
  rw [World.size_alloc]; exact rd_new w xs cs n hn h

theorem below_lit (w0 w : World) (h : Below w0.heap.size w0 w) (o : Obj) : Below w0.heap.size w0 (w.alloc o) := h.alloc h.size o

theorem below_call {w0 w w' : World} (h : Below w0.heap.size w0 w) (k : Below w.heap.size w w') : Below w0.heap.size w0 w' := h.trans (k.mono h.size)

theorem Rd.call {w w' : World} {B n : Nat} {A : Option Addr} {xs : List Int} (h : Rd w B A n xs) (hB : B ≤ w.heap.size) (k : Below w.heap.size w w') : Rd w' w'.heap.size A n xs := (h.below (k.mono hB)).more (Nat.le_trans hB k.size)

theorem Rd.lit {w : World} {n : Nat} {A : Option Addr} {xs : List Int} (h : Rd w w.heap.size A n xs) (o : Obj) : Rd (w.alloc o) (w.alloc o).heap.size A n xs := (h.alloc (Nat.le_refl _) o).more (by simp)

theorem Rd.dN {w : World} {n : Nat} {A : Option Addr} {xs : List Int} (h : Rd w w.heap.size A n xs) (k : Nat) : Rd (w.drewN k) (w.drewN k).heap.size A n xs := h

theorem Ow.call {w w' : World} {base n c : Nat} {A : Option Addr} {xs : List Int} (h : Ow w base A n c xs) (k : Below w.heap.size w w') : Ow w' base A n c xs := h.below k (Nat.le_refl _)

theorem own_lit1 (w : World) (base : Nat) (hb : base ≤ w.heap.size) (r : Int) : Ow (w.alloc (.cells #[.int .i64 r] 3)) base (some ⟨w.heap.size, 0, none⟩) 1 1 [r] :=
  ⟨rfl, .inr ⟨w.heap.size, 1, #[.int .i64 r], rfl, hb, heap_alloc_new w _, Nat.le_refl _, by unfold maxLen; omega, rfl, rfl⟩⟩

theorem Rd.at0 {w : World} {B g n : Nat} {xs : List Int} (h : Rd w B (some ⟨g, 0, none⟩) n xs) : ∀ (i : Nat) (x : Int), xs[i]? = some x → w.cell? ⟨g, i, none⟩ = some (.int .i64 x) := fun i x hx => by
  obtain ⟨b, o, e, _, hc⟩ := h.pos (by have := h.len; have := (List.getElem?_eq_some_iff.1 hx).1; omega)
  injection e with e; injection e with e1 e2; subst e1; subst e2
  have := hc i x hx
  rw [Nat.zero_add] at this; exact this

theorem app1w {ops : Array Oper} {rest : List Oper} {o : Oper} {a : Act} {Q : Exit → Act → World → Prop} (hw : Region.wanted o (yielded ops a.tmps) = true) (s x : Operand)
    (ho : o.op = .call { callee := .builtin .append, args := #[s, x], argTypes := #[23, 23] })
    (w : World) (base : Nat) (A : Option Addr) (n c : Nat) (xs : List Int) (v : Int)
    (hs : a.eval s = .slice A n c) (hx : a.eval x = .slice (some ⟨w.heap.size, 0, none⟩) 1 1) (hown : Ow w base A n c xs) (hlen : n ≤ 1000000) (hbase : base ≤ w.heap.size)
    (h : ∀ g c' w', Ow w' base (some ⟨g, 0, none⟩) (n + 1) c' (xs ++ [v]) → w.grownBy w' (A.map (·.block)) → Below base w w' → (A.map (·.block) = some g ∨ w.heap.size ≤ g) → n + 1 ≤ c' → wpList Tryd.prog ops Q rest (a.put o.dst (.slice (some ⟨g, 0, none⟩) (n + 1) c')) w') :
    wpList Tryd.prog ops Q (o :: rest) a (w.alloc (.cells #[.int .i64 v] 3)) := by
  obtain ⟨i0, hi, hz0, hz1, hz2⟩ := info_parts Tryd.infoI
  refine wpList_step fun K hK => ?_
  rw [if_pos hw]
  refine wp_append_lies _ s x 23 ho base 3 i0 (.int .i64 0) 1 8 Tryd.underlying23 hi hz0 hz1 hz2 rfl (by decide) (.slice A n c) n (xs.map (Value.int .i64)) hs (World.ownsRow.alloc hown _)
    ⟨w.heap.size, 0, none⟩ 1 1 [.int .i64 v] hx rfl (cell_one_new _ _ _) (by intro u hu; simp at hu; subst hu; rfl) (by omega) (by unfold maxLen; omega) (by omega) (by simp; omega) (w.heap.size + 1) (by simp) ?_
  intro g cap w1 ho1 hg1 hat hlt
  rw [ownBlock_slice] at hg1 hat
  have hgr : w.grownBy w1 (A.map (·.block)) := (World.grownBy_alloc w _ _).trans hg1
  have ho2 : Ow w1 base (some ⟨g, 0, none⟩) (n + 1) cap (xs ++ [v]) := by unfold Ow; rw [List.map_append]; exact ho1
  refine hK _ _ (h g cap w1 ho2 hgr (own_below hown hgr hbase) ?_ ho2.cap)
  rcases hat with hat | hat
  · exact .inl hat
  · exact .inr (by omega)

theorem Ow.far {w w' : World} {base n c g : Nat} {A : Option Addr} {xs : List Int} (h : Ow w base A n c xs) (hg : w.grownBy w' (some g)) (hlt : g < base) : Ow w' base A n c xs :=
  h.keep fun b e => by
    have := h.lt b 0 none e
    exact hg.block b this.2 (by simp; omega)

def IsRow (k : IntKind) (w : World) (a : Option Addr) (len cap : Nat) (zs : List Int) : Prop :=
  (a = none ∧ len = 0 ∧ cap = 0 ∧ zs = []) ∨
  ∃ x, a = some x ∧ len ≤ cap ∧ cap ≤ maxLen ∧ zs.length = cap ∧ (∀ i, i < zs.length → w.cell? (x.add i) = some (.int k (zs.getD i 0))) ∧ ∀ n ∈ zs, (Lit.int k n).wf = true

theorem IsRow.rd {w : World} {a : Option Addr} {len cap : Nat} {zs : List Int} (h : IsRow .i64 w a len cap zs) : Rd w w.heap.size a len (zs.take len) ∧ len ≤ cap ∧ cap ≤ 9223372036854775807 := by
  rcases h with ⟨rfl, rfl, rfl, rfl⟩ | ⟨x, rfl, h1, h2, h3, h4, _⟩
  · exact ⟨by simpa using Rd.nil, by omega, by omega⟩
  · refine ⟨⟨by simp; omega, fun hn => ?_⟩, h1, by unfold maxLen at h2; omega⟩
    obtain ⟨b, o, sp⟩ := x
    have hsp : sp = none := by
      have h0 := h4 0 (by omega)
      cases sp with
      | none => rfl
      | some s =>
        simp [Addr.add, World.cell?] at h0
        split at h0 <;> simp_all
    subst hsp
    have hb : b < w.heap.size := by
      have h0 := h4 0 (by omega)
      simp only [Addr.add, if_true] at h0
      unfold World.cell? at h0
      rcases Nat.lt_or_ge b w.heap.size with hlt | hge
      · exact hlt
      · rw [Array.getElem?_eq_none hge] at h0; simp at h0
    refine ⟨b, o, rfl, hb, fun i x hx => ?_⟩
    rw [List.getElem?_take] at hx
    split at hx
    · have hi : i < zs.length := (List.getElem?_eq_some_iff.1 hx).1
      have h0 := h4 i hi
      rw [getD_of hx] at h0
      rw [← h0]
      unfold Addr.add
      split
      · rename_i e; subst e; rfl
      · rfl
    · cases hx

theorem same_b (A B : Option Addr) (n m c d : Nat) (xs ys : List Int) (w : World) (hA : Rd w w.heap.size A n xs) (hB : Rd w w.heap.size B m ys) (hn : n ≤ 1000000000) (hm : m ≤ 1000000000) :
    Calls Tryd.prog 51 #[.slice A n c, .slice B m d] w fun e w' => e = .returned (.bool (decide (xs = ys))) ∧ Below w.heap.size w w' :=
  (same_c A B n m c d xs ys w hA hB hn hm).mono fun e w' ⟨he, k, hk⟩ => ⟨he, by rw [hk]; exact below_drewN (Below.refl _ _) k⟩

end Go.Proofs.YtgcmedkaadagmaaDoor.S6
