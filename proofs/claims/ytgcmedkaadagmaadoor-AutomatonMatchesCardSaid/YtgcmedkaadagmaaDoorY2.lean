/- Walks: a maker's set and row. -/
import Derived.Test.YtgcmedkaadagmaaDoorY1
import Derived.LoopTactic
import Derived.RegionTactic
import Derived.BigRegion
import Derived.OwnWalk
import Derived.Deep.DeepCutAuto
namespace Go.Proofs.YtgcmedkaadagmaaDoor
open Go.RowKit Go.Shelf

/-- A row's own block. -/
def bl (A : Option Addr) : List Nat := (A.map (·.block)).toList
theorem bl_in {A : Option Addr} {b : Nat} : b ∈ bl A ↔ A.map (·.block) = some b := by unfold bl; simp
theorem Up.thru {gm B : Nat} {a w w' : World} (h : Up gm a w) (hb : Below B w w') (hB : a.heap.size ≤ B) (hg : gm < a.heap.size) : Up gm a w' :=
 ⟨⟨hb.os.trans h.gr.os, hb.tape.trans h.gr.tape, hb.output.trans h.gr.output, Nat.le_trans h.gr.size hb.size, fun k hk hne => (hb.block k (by omega)).trans (h.gr.block k hk hne)⟩, fun s hs => (h.st s hs).keep fun b hbb => hb.block b (by omega)⟩
theorem rdb {w : World} {base n c : Nat} {A : Option Addr} {xs : List Int} {D : Nat → Prop} (h : Ow 3 1 w base A n c (ic xs)) (hD : ∀ b, A.map (·.block) = some b → D b) : Rd w D A n xs := by
 refine ⟨h.rd.1, fun hn => ?_⟩
 obtain ⟨b, o, e1, _, hc⟩ := h.rd.2 hn
 exact ⟨b, o, e1, hD b (by rw [e1]; rfl), hc⟩
section
variable {α : Type} {e k : Nat} {E : World → (Nat → Prop) → List Value → α → Prop} {W W2 W4 : World} {B gm : Nat} {Y : List Nat} {A A' : Option Addr} {n c c' : Nat} {css : List (List Value)} {xs : List α}
/-- Elements more: what an append leaves. -/
theorem Rg.more (hE : EM k E) (h : Rg e k E W2 B (bl A ++ Y) A n c css xs) {m : Nat} {ds : List (List Value)} {ys : List α} (hr : RowOf k (E W2 (Fz B W2 (bl A ++ Y))) ds ys)
  (ho : Ow e k W4 B A' (n + m) c' (css.flatten ++ ds.flatten)) (hg : W2.grownBy W4 (A.map (·.block))) (hat : A'.map (·.block) = A.map (·.block) ∨ A'.map (·.block) = some W2.heap.size) :
  Rg e k E W4 B (bl A' ++ Y) A' (n + m) c' (css ++ ds) (xs ++ ys) :=
 h.push hE hr ho hg (fun b _ h2 h3 => by
  rcases List.mem_append.1 h3 with h3 | h3
  ·rw [bl_in] at h3
   rcases hat with e1 | e1
   ·exact List.mem_append_left _ (bl_in.2 (e1.symm.trans h3))
   ·rw [h3] at e1; injection e1 with e1; omega
  ·exact List.mem_append_right _ h3) (fun b h1 => List.mem_append_left _ (bl_in.2 h1))
theorem Rg.push1 (hE : EM k E) (h : Rg e k E W2 B (bl A ++ Y) A n c css xs) {cs : List Value} {y : α} (hr : E W2 (Fz B W2 (bl A ++ Y)) cs y)
  (ho : Ow e k W4 B A' (n + 1) c' (css.flatten ++ cs)) (hg : W2.grownBy W4 (A.map (·.block))) (hat : A'.map (·.block) = A.map (·.block) ∨ A'.map (·.block) = some W2.heap.size) :
  Rg e k E W4 B (bl A' ++ Y) A' (n + 1) c' (css ++ [cs]) (xs ++ [y]) :=
 h.more hE (RowOf.one hr (hE.len hr)) (by simpa using ho) hg hat
end
theorem bl_lt {e k : Nat} {w : World} {base n c : Nat} {A : Option Addr} {cs : List Value} (h : Ow e k w base A n c cs) : ∀ b ∈ bl A, base ≤ b ∧ b < w.heap.size := fun b hb => by
 obtain ⟨h1, h2, _⟩ := h.blk b (bl_in.1 hb)
 exact ⟨h1, h2⟩

/-- What set leaves. -/
def SetR (gm : Nat) (w : World) (e : Ending) (w' : World) : Prop := ∃ A n c xs, e = .returned (.slice A n c) ∧ n ≤ 4 ∧ Ow 3 1 w' w.heap.size A n c (ic xs) ∧ Up gm w w'
theorem Ow.new (e k : Nat) (w : World) (base : Nat) (cs : List Value) (hl : cs.length = k) (hb : base ≤ w.heap.size) : Ow e k (w.alloc (.cells cs.toArray e)) base (some ⟨w.heap.size, 0, none⟩) 1 1 cs :=
 ⟨by omega, .inr ⟨w.heap.size, 1, cs.toArray, rfl, hb, heap_alloc_new w _, Nat.le_refl _, by unfold maxLen; omega, by simp [hl], by show cs.take (1 * k) = cs; rw [Nat.one_mul, ← hl, List.take_length]⟩⟩

set_option maxRecDepth 100000 in
set_option maxHeartbeats 1000000 in
theorem bset_c (gm : Nat) (s : MSt) (w : World) (h : Mk w gm s) (hn0 : 0 < s.f.gn) (hn1 : s.f.gn ≤ 1000) : Calls Tryd.prog 87 #[.pointer (some ⟨gm, 0, none⟩)] w (SetR gm w) := by
 have hg := h.lt
 have c3 : w.cell? ⟨gm, 3, none⟩ = some (.slice s.f.ga s.f.gn s.f.gc) := h.cell 3 (by decide) rfl
 have HN := Lib.hid (bnext_c gm s.f.gn s w h hn0 (by omega))
 have HK := Lib.hid fun (W : World) (hu : Up gm w W) => bnext_c gm 3 s W (hu.st s h) (by omega) (by omega)
 obtain ⟨gn, hgn⟩ : ∃ n, s.f.gn = n := ⟨_, rfl⟩
 rw [hgn] at HN c3 hn0 hn1
 clear h hgn
 go_enter Tryd.func87, Tryd.ntmps87
 go_wp2_with fail
 refine HN.out.mono ?_
 rintro e w1 ⟨a, rfl, ha, hu1⟩
 clear HN c3
 have ho1 : Ow 3 1 (w1.alloc (.cells #[.int .i64 (a : Int)] 3)) w.heap.size (some ⟨w1.heap.size, 0, none⟩) 1 1 (ic [(a : Int)]) := Ow.new 3 1 w1 w.heap.size [.int .i64 (a : Int)] rfl hu1.size
 have hu2 : Up gm w (w1.alloc (.cells #[.int .i64 (a : Int)] 3)) := hu1.alloc (by have := hu1.size; omega) _
 go_upto_region 5 with fail
 generalize w1.alloc (.cells #[.int .i64 (a : Int)] 3) = w2 at *
 generalize (some ⟨w1.heap.size, 0, none⟩ : Option Addr) = A0 at *
 clear hu1
 go_loopw [5, 6] (fun ov iv wr => ∃ (m : Nat) (A : Option Addr) (c : Nat) (xs : List Int) (i : Nat), ov = .slice A m c ∧ iv = .int .i64 (i : Int) ∧ m ≤ 4 ∧ i ≤ gn ∧ Ow 3 1 wr w.heap.size A m c (ic xs) ∧ Up gm w wr) (fun _ iv _ => gn - (intOf iv).toNat)
 case atStart => exact ⟨1, _, 1, _, a + 1, rfl, by go_num, by omega, by omega, ho1, hu2⟩
 case round =>
  clear ho1 hu2 ha
  obtain ⟨m, A, c, xs, i, rfl, rfl, hm, hi, ho, hu⟩ := hrel
  have hsz := hu.size
  by_cases hlt : i < gn
  ·have in0 : (i : Int) < (gn : Int) := by omega
   by_cases hm4 : m < 4
   ·have m4 : (m : Int) < 4 := by omega
    have HN := Lib.hid (HK.out wr hu)
    go_wp2_with fail
    refine HN.out.mono ?_
    rintro e w3 ⟨r, rfl, hr, hu3⟩
    have ho3 := hu3.ow ho hg
    have hu4 := hu.trans hu3
    clear HN ho hu hu3 hsz
    by_cases hr0 : r = 0
    ·subst hr0
     have hs3 : w.heap.size ≤ (w3.alloc (.cells #[.int .i64 (i : Int)] 3)).heap.size := by rw [World.size_alloc]; have := hu4.size; omega
     go_wp2_with (at_builtin; refine appP elt_int rfl _ _ rfl (w3.alloc (.cells #[.int .i64 (i : Int)] 3)) w.heap.size _ _ _ (ic xs) _ 1 1 [.int .i64 (i : Int)] (by rfl) (by rfl) (ho3.alloc _) rfl (fun _ => news_new _ _ _ (by omega)) (by simp [Value.oneCell']) (by omega) hs3 ?_; intro A' c' W4 ho4 hg4 hb4 hat4)
     have hu5 : Up gm w W4 := (hu4.alloc (by have := hu4.size; omega) _).thru hb4 (Nat.le_refl _) hg
     clear hg4 hb4 hat4 ho3 hu4 hs3
     go_roundw
     case rel => exact ⟨m + 1, A', c', xs ++ [(i : Int)], i + 1, rfl, by go_num, by omega, by omega, by rw [ic_app]; exact ho4, hu5⟩
     case measure => simp [intOf]; omega
    ·have r0 : ((r : Int) == 0) = false := by simp; omega
     have r0' : (r == 0) = false := by simpa using hr0
     clear hr0
     go_wp2
     go_roundw
     case rel => exact ⟨m, A, c, xs, i + 1, rfl, by go_num, by omega, by omega, ho3, hu4⟩
     case measure => simp [intOf]; omega
   ·have m4 : ¬ (m : Int) < 4 := by omega
    go_wp2
    go_ret
    exact ⟨A, m, c, xs, rfl, hm, ho, hu⟩
  ·have in0 : ¬ (i : Int) < (gn : Int) := by omega
   go_wp2
   go_ret
   exact ⟨A, m, c, xs, rfl, hm, ho, hu⟩

/-- What row leaves. -/
def RowR (gm most : Nat) (w : World) (e : Ending) (w' : World) : Prop := ∃ A n c css xss, e = .returned (.slice A n c) ∧ n ≤ most ∧ Rg 23 1 ERow w' w.heap.size (bl A ++ []) A n c css xss ∧ (∀ xs ∈ xss, xs.length ≤ 4) ∧ Up gm w w'
theorem erow_of {w w2 : World} {B : Nat} {X : List Nat} {A : Option Addr} {n c : Nat} {xs : List Int} (h : Ow 3 1 w2 w.heap.size A n c (ic xs)) (hB : B ≤ w.heap.size) (hX : ∀ b ∈ X, b < w.heap.size) : ERow w2 (Fz B w2 X) [.slice A n c] xs :=
 ⟨A, n, c, rfl, rdb h (fun b e1 => by
  obtain ⟨h1, h2, _⟩ := h.blk b e1
  exact ⟨by omega, h2, fun h3 => by have := hX b h3; omega⟩), h.cap⟩

set_option maxRecDepth 100000 in
set_option maxHeartbeats 1000000 in
theorem brow_c (gm most : Nat) (s : MSt) (w : World) (h : Mk w gm s) (hn0 : 0 < s.f.gn) (hn1 : s.f.gn ≤ 1000) (hmo : most ≤ 1000) : Calls Tryd.prog 88 #[.pointer (some ⟨gm, 0, none⟩), .int .i64 (most : Int)] w (RowR gm most w) := by
 have hg := h.lt
 have HN := Lib.hid (bnext_c gm (most + 1) s w h (by omega) (by omega))
 rw [show ((most + 1 : Nat) : Int) = (most : Int) + 1 from rfl] at HN
 have HK := Lib.hid fun (W : World) (hu : Up gm w W) => bset_c gm s W (hu.st s h) hn0 hn1
 clear h hn0 hn1
 go_enter Tryd.func88, Tryd.ntmps88
 go_wp2_with fail
 refine HN.out.mono ?_
 rintro e w1 ⟨a, rfl, ha, hu1⟩
 clear HN
 go_upto_region 4 with fail
 go_loopw [5, 7] (fun ov iv wr => ∃ (i : Nat) (A : Option Addr) (c : Nat) (css : List (List Value)) (xss : List (List Int)), ov = .slice A i c ∧ iv = .int .i64 (i : Int) ∧ i ≤ a ∧ Rg 23 1 ERow wr w.heap.size (bl A ++ []) A i c css xss ∧ (∀ xs ∈ xss, xs.length ≤ 4) ∧ Up gm w wr) (fun _ iv _ => a - (intOf iv).toNat)
 case atStart => exact ⟨0, none, 0, [], [], rfl, rfl, by omega, Rg.nil _ _ _ _ _ _, (fun xs h => by cases h), hu1⟩
 case round =>
  clear hu1
  obtain ⟨i, A, c, css, xss, rfl, rfl, hi, hrg, hl4, hu⟩ := hrel
  by_cases hlt : i < a
  ·have in0 : (i : Int) < (a : Int) := by omega
   have HN := Lib.hid (HK.out wr hu)
   go_wp2_with fail
   refine HN.out.mono ?_
   rintro e w3 ⟨As, ms, cs, xs, rfl, hms, hos, hu3⟩
   have hrg3 := hrg.up em_rows hu3 hg
   have hX : ∀ b ∈ bl A ++ [], b < wr.heap.size := fun b hb => by rw [List.append_nil] at hb; exact (bl_lt hrg.ow b hb).2
   have her := erow_of hos hu.size hX
   have hu4 := hu.trans hu3
   have hxl : xs.length ≤ 4 := by have := hos.len; rw [ic_len] at this; omega
   clear HN hrg hu hu3 hos hX
   have bz : Below w3.heap.size w3 (w3.alloc (.cells #[.slice As ms cs] 23)) := below_lit _ _ (Below.refl _ _) _
   have hrg4 := hrg3.below em_rows bz
   have her4 : ERow (w3.alloc (.cells #[.slice As ms cs] 23)) (Fz w.heap.size (w3.alloc (.cells #[.slice As ms cs] 23)) (bl A ++ [])) [.slice As ms cs] xs := em_rows.mono her (fun b hb => ⟨hb.1, Nat.lt_of_lt_of_le hb.2.1 bz.size, hb.2.2⟩) (fun b hb => bz.block b hb.2.1)
   have hs3 : w.heap.size ≤ (w3.alloc (.cells #[.slice As ms cs] 23)).heap.size := by have := hu4.size; have := bz.size; omega
   have HOW := Lib.hid hrg4.ow
   go_wp2_with (at_builtin; refine appP elt_row rfl _ _ rfl (w3.alloc (.cells #[.slice As ms cs] 23)) w.heap.size _ _ _ css.flatten _ 1 1 [.slice As ms cs] (by rfl) (by rfl) HOW.out rfl (fun _ => news_new _ _ _ (by omega)) (by simp [Value.oneCell']) (by omega) hs3 ?_; intro A' c' W4 ho4 hg4 hb4 hat4)
   have hrg5 := hrg4.push1 em_rows her4 ho4 hg4 hat4
   have hu5 : Up gm w W4 := (hu4.alloc (by have := hu4.size; omega) _).thru hb4 (Nat.le_refl _) hg
   clear ho4 hg4 hb4 hat4 hrg3 hrg4 her her4 hu4 hs3 HOW bz
   go_roundw
   case rel => exact ⟨i + 1, A', c', _, xss ++ [xs], rfl, by go_num, by omega, hrg5, (fun y hy => by
    rcases List.mem_append.1 hy with hy | hy
    ·exact hl4 y hy
    ·rw [List.mem_singleton] at hy; rw [hy]; exact hxl), hu5⟩
   case measure => simp [intOf]; omega
  ·have in0 : ¬ (i : Int) < (a : Int) := by omega
   go_wp2
   go_ret
   exact ⟨A, i, c, css, xss, rfl, by omega, hrg, hl4, hu⟩

end Go.Proofs.YtgcmedkaadagmaaDoor
