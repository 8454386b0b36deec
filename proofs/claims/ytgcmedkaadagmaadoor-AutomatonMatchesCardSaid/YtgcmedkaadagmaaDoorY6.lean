/- Walks: a maker's rule. -/
import Derived.Test.YtgcmedkaadagmaaDoorTk
import Derived.Test.YtgcmedkaadagmaaDoorY5
import Derived.Deep.CutBlock
namespace Go.Proofs.YtgcmedkaadagmaaDoor
open Go.RowKit Go.Shelf

theorem hd_zero : Hd 0 0 := ⟨Nat.le_refl _, by omega⟩
/-- How large a rule may be that is made. -/
structure RulB (u : Rul) : Prop where
 i0 : u.inn ≠ []
 b : u.back.length ≤ 2
 i : u.inn.length ≤ 3
 a : u.ahead.length ≤ 2
 l : ∀ s ∈ u.back ++ (u.inn ++ u.ahead), s.length ≤ 4
/-- What rule leaves. -/
def RuleR (gm : Nat) (w : World) (e : Ending) (w' : World) : Prop := ∃ cs u, e = .returned (.agg cs) ∧ ERul w' (fun b => w.heap.size ≤ b ∧ b < w'.heap.size) cs.toList u ∧ RulB u ∧ Up gm w w'
/-- Six cells stored. -/
def store6 (W : World) (g : Nat) (a b c d e f : Value) : World := (((((W.setCell ⟨g, 0, none⟩ a).setCell ⟨g, 1, none⟩ b).setCell ⟨g, 2, none⟩ c).setCell ⟨g, 3, none⟩ d).setCell ⟨g, 4, none⟩ e).setCell ⟨g, 5, none⟩ f
theorem store6_bk {W : World} {g t : Nat} {a0 b0 c0 d0 e0 f0 : Value} (h : Bk W g t #[a0, b0, c0, d0, e0, f0]) (a b c d e f : Value) : Bk (store6 W g a b c d e f) g t #[a, b, c, d, e, f] := by
 have h0 : Bk (W.setCell ⟨g, 0, none⟩ a) g t #[a, b0, c0, d0, e0, f0] := h.set_ 0 a
 have h1 : Bk _ g t #[a, b, c0, d0, e0, f0] := h0.set_ 1 b
 have h2 : Bk _ g t #[a, b, c, d0, e0, f0] := h1.set_ 2 c
 have h3 : Bk _ g t #[a, b, c, d, e0, f0] := h2.set_ 3 d
 have h4 : Bk _ g t #[a, b, c, d, e, f0] := h3.set_ 4 e
 exact h4.set_ 5 f
theorem store6_far (W : World) (g : Nat) (a b c d e f : Value) : (∀ x, x ≠ g → (store6 W g a b c d e f).heap[x]? = W.heap[x]?) ∧ (store6 W g a b c d e f).heap.size = W.heap.size := by
 refine ⟨fun x hx => ?_, by unfold store6; simp⟩
 unfold store6
 rw [Below.heap_setCell _ ⟨g, 5, none⟩ _ x hx, Below.heap_setCell _ ⟨g, 4, none⟩ _ x hx, Below.heap_setCell _ ⟨g, 3, none⟩ _ x hx, Below.heap_setCell _ ⟨g, 2, none⟩ _ x hx, Below.heap_setCell _ ⟨g, 1, none⟩ _ x hx, Below.heap_setCell _ ⟨g, 0, none⟩ _ x hx]
theorem Up.set6 {gm : Nat} {a w : World} (h : Up gm a w) {g : Nat} (hp : a.heap.size ≤ g) (hg : gm < a.heap.size) (x0 x1 x2 x3 x4 x5 : Value) : Up gm a (store6 w g x0 x1 x2 x3 x4 x5) :=
 (((((h.set (p := ⟨g, 0, none⟩) hp hg x0).set (p := ⟨g, 1, none⟩) hp hg x1).set (p := ⟨g, 2, none⟩) hp hg x2).set (p := ⟨g, 3, none⟩) hp hg x3).set (p := ⟨g, 4, none⟩) hp hg x4).set (p := ⟨g, 5, none⟩) hp hg x5
/-- The sets of a row of the maker's, laid onto In. -/
theorem row_onto {W2 : World} {B1 B : Nat} {X : List Nat} {A : Option Addr} {n c : Nat} {css : List (List Value)} {xss : List (List Int)} (h : Rg 23 1 ERow W2 B1 (bl A ++ []) A n c css xss) (hB : B ≤ B1) (hX : ∀ b ∈ X, b < B1) : RowOf 1 (ERow W2 (Fz B W2 X)) css xss ∧ css.flatten.length = n * 1 ∧ (∀ u ∈ css.flatten, u.oneCell' = true) ∧ (0 < n → ∃ b o, A = some ⟨b, o, none⟩ ∧ ∀ j u, css.flatten[j]? = some u → W2.cell? ⟨b, o + j, none⟩ = some u) :=
 ⟨h.rw.mono fun cs x hx => em_rows.mono hx (fun b hb => ⟨Nat.le_trans hB hb.1, hb.2.1, fun h3 => by have := hX b h3; have := hb.1; omega⟩) (Kept.refl _ _), h.ow.len, h.rw.one_cells (fun cs x hx => em_rows.one hx), fun hn => by
  obtain ⟨g, e, _, _⟩ := h.ow.form hn
  have ho := h.ow
  rw [e] at ho
  exact ⟨g, 0, e, fun j u hu => by rw [Nat.zero_add]; exact ho.cell hu⟩⟩
/-- One set of the maker's, laid onto In. -/
theorem set_onto {w2 W : World} {B1 B : Nat} {X : List Nat} {A : Option Addr} {n c : Nat} {xs : List Int} (h : Ow 3 1 w2 B1 A n c (ic xs)) (hB : B ≤ B1) (hX : ∀ b ∈ X, b < B1) (hk : Below w2.heap.size w2 W) : RowOf 1 (ERow W (Fz B W X)) [[.slice A n c]] [xs] :=
 RowOf.one (⟨A, n, c, rfl, (rdb h (D := Fz B w2 X) (fun b e1 => by
  obtain ⟨h1, h2, _⟩ := h.blk b e1
  exact ⟨by omega, h2, fun h3 => by have := hX b h3; omega⟩)).mono (fun b hb => ⟨hb.1, Nat.lt_of_lt_of_le hb.2.1 hk.size, hb.2.2⟩) (fun b hb => hk.block b hb.2.1), h.cap⟩ : ERow _ _ _ _) rfl
theorem RulB.inn_app {u : Rul} (h : RulB u) {ys : List (List Int)} (hl : u.inn.length + ys.length ≤ 3) (hy : ∀ s ∈ ys, s.length ≤ 4) : RulB { u with inn := u.inn ++ ys } :=
 ⟨by simpa using fun h1 => absurd h1 h.i0, h.b, by show (u.inn ++ ys).length ≤ 3; rw [List.length_append]; exact hl, h.a, fun s hs => by
  rcases List.mem_append.1 hs with hs | hs
  ·exact h.l s (List.mem_append_left _ hs)
  ·rcases List.mem_append.1 hs with hs | hs
   ·rcases List.mem_append.1 hs with hs | hs
    ·exact h.l s (List.mem_append_right _ (List.mem_append_left _ hs))
    ·exact hy s hs
   ·exact h.l s (List.mem_append_right _ (List.mem_append_right _ hs))⟩
theorem RulB.out {u : Rul} (h : RulB u) (o : List Int) : RulB { u with out := o } := ⟨h.i0, h.b, h.i, h.a, h.l⟩
theorem RulB.calls {u : Rul} (h : RulB u) (o : List (Int × Int)) : RulB { u with calls := o } := ⟨h.i0, h.b, h.i, h.a, h.l⟩
theorem RulB.x_ {u : Rul} (h : RulB u) (x : Int) : RulB { u with x := x } := ⟨h.i0, h.b, h.i, h.a, h.l⟩
theorem RulB.back_ {u : Rul} (h : RulB u) {ys : List (List Int)} (hl : ys.length ≤ 2) (hy : ∀ s ∈ ys, s.length ≤ 4) : RulB { u with back := ys } := ⟨h.i0, hl, h.i, h.a, fun s hs => by
 rcases List.mem_append.1 hs with hs | hs
 ·exact hy s hs
 ·exact h.l s (List.mem_append_right _ hs)⟩
theorem RulB.ahead_ {u : Rul} (h : RulB u) {ys : List (List Int)} (hl : ys.length ≤ 2) (hy : ∀ s ∈ ys, s.length ≤ 4) : RulB { u with ahead := ys } := ⟨h.i0, h.b, h.i, hl, fun s hs => by
 rcases List.mem_append.1 hs with hs | hs
 ·exact h.l s (List.mem_append_left _ hs)
 ·rcases List.mem_append.1 hs with hs | hs
  ·exact h.l s (List.mem_append_right _ (List.mem_append_left _ hs))
  ·exact hy s hs⟩

set_option maxRecDepth 100000 in
set_option maxHeartbeats 40000000 in
theorem brule_c (gm : Nat) (s : MSt) (kind : Int) (CA : Option Addr) (cn cc : Nat) (cxs : List Int) (w : World) (h : Mk w gm s) (hn0 : 0 < s.f.gn) (hn1 : s.f.gn ≤ 1000) (hC : Rd w (fun b => b < w.heap.size ∧ b ≠ gm) CA cn cxs) (hCd : Hd cn cc) (hcn1 : cn ≤ 1000) : Calls Tryd.prog 71 #[.pointer (some ⟨gm, 0, none⟩), .int .i64 kind, .slice CA cn cc] w (RuleR gm w) := by
 have hg := h.lt
 have HM := Lib.hid fun (W : World) (hu : Up gm w W) => hu.st s h
 have HN := Lib.hid fun (m : Nat) (h0 : 0 < m) (h1 : m ≤ 100000) (W : World) (hu : Up gm w W) => bnext_c gm m s W (hu.st s h) h0 (by omega)
 have HS1 := Lib.hid fun (W : World) (hu : Up gm w W) => bset_c gm s W (hu.st s h) hn0 hn1
 have HRW := Lib.hid fun (W : World) (hu : Up gm w W) => (show Calls Tryd.prog 88 #[.pointer (some ⟨gm, 0, none⟩), .int .i64 2] W (RowR gm 2 W) from brow_c gm 2 s W (hu.st s h) hn0 hn1 (by omega))
 have HCA := Lib.hid fun (W : World) (hu : Up gm w W) => (show Rd W (fun b => b < w.heap.size ∧ b ≠ gm) CA cn cxs from hC.mono (fun _ h => h) (fun b hb => hu.block hb.1 hb.2))
 obtain ⟨gn, hgn⟩ : ∃ n, s.f.gn = n := ⟨_, rfl⟩
 have c3 : ∀ (W : World), Up gm w W → W.cell? ⟨gm, 3, none⟩ = some (.slice s.f.ga s.f.gn s.f.gc) := fun W hu => (hu.st s h).cell 3 (by decide) rfl
 rw [hgn] at c3 hn0 hn1
 have hu2 : Up gm w ((w.alloc (.cells #[.slice none 0 0, .slice none 0 0, .slice none 0 0, .slice none 0 0, .slice none 0 0, .int .i64 0] 58)).alloc (.cells #[.slice none 0 0, .slice none 0 0, .slice none 0 0, .slice none 0 0, .slice none 0 0, .int .i64 0] 58)) := ((Up.refl gm w).alloc hg _).alloc (by rw [World.size_alloc]; omega) _
 have kr0 := (Bk.new w 58 #[.slice none 0 0, .slice none 0 0, .slice none 0 0, .slice none 0 0, .slice none 0 0, .int .i64 0]).alloc (.cells #[.slice none 0 0, .slice none 0 0, .slice none 0 0, .slice none 0 0, .slice none 0 0, .int .i64 0] 58)
 have kg0 := Bk.new (w.alloc (.cells #[.slice none 0 0, .slice none 0 0, .slice none 0 0, .slice none 0 0, .slice none 0 0, .int .i64 0] 58)) 58 #[.slice none 0 0, .slice none 0 0, .slice none 0 0, .slice none 0 0, .slice none 0 0, .int .i64 0]
 rw [World.size_alloc] at kg0
 obtain ⟨w2, hw2⟩ : ∃ x, (w.alloc (.cells #[.slice none 0 0, .slice none 0 0, .slice none 0 0, .slice none 0 0, .slice none 0 0, .int .i64 0] 58)).alloc (.cells #[.slice none 0 0, .slice none 0 0, .slice none 0 0, .slice none 0 0, .slice none 0 0, .int .i64 0] 58) = x := ⟨_, rfl⟩
 have hs2 : w.heap.size + 2 ≤ w2.heap.size := by rw [← hw2, World.size_alloc, World.size_alloc]; omega
 rw [hw2] at hu2 kr0 kg0
 have x3 := c3 w2 hu2
 have HC3 := Lib.hid c3
 have HGN := Lib.hid hgn
 have HCd := Lib.hid hCd
 have hcn := hC.len
 clear h hgn c3 hC hCd
 go_enter Tryd.func71, Tryd.ntmps71
 go_upto_region 3 with fail
 try rw [hw2]
 clear hw2
 obtain ⟨g, hgg⟩ : ∃ g, w.heap.size + 1 = g := ⟨_, rfl⟩
 obtain ⟨r, hrr⟩ : ∃ r, w.heap.size = r := ⟨_, rfl⟩
 have hgw : w.heap.size < g := by omega
 have hrw : w.heap.size ≤ r := by omega
 have hne : g ≠ r := by omega
 rw [hgg] at kg0
 rw [hrr] at kr0
 rw [hgg, hrr]
 clear hgg hrr
 have HC := Lib.hid (HS1.out w2 hu2)
 go_wp2_with fail
 refine HC.out.mono ?_
 rintro e w3 ⟨As, ms, cs, xs, rfl, hms, hos, hu3⟩
 have kg3 := hu3.bk kg0 (by omega)
 have kr3 := hu3.bk kr0 (by omega)
 have hxl : xs.length ≤ 4 := by have := hos.len; rw [ic_len] at this; omega
 have hst : RuS gm w ((w3.alloc (.cells #[.slice As ms cs] 23)).setCell ⟨g, 1, none⟩ (.slice (some ⟨w3.heap.size, 0, none⟩) 1 1)) g r ⟨none, 0, 0, some ⟨w3.heap.size, 0, none⟩, 1, 1, none, 0, 0, none, 0, 0, none, 0, 0⟩ ⟨[], [xs], [], [], [], 0⟩ := by
  have hu4 := (hu2.trans hu3)
  have hs4 := hu4.size
  have hs3 := hu3.size
  have hbz : Below w3.heap.size w3 (w3.alloc (.cells #[.slice As ms cs] 23)) := below_lit _ _ (Below.refl _ _) _
  have k4 := kg3.alloc (.cells #[.slice As ms cs] 23)
  have kr4 := kr3.alloc (.cells #[.slice As ms cs] 23)
  have hw : Ow 23 1 (w3.alloc (.cells #[.slice As ms cs] 23)) w.heap.size (some ⟨w3.heap.size, 0, none⟩) 1 1 [.slice As ms cs] := Ow.lit 23 1 1 w3 w.heap.size [.slice As ms cs] rfl hs4 (by omega)
  have hX : ∀ b ∈ RuV.X ⟨none, 0, 0, none, 0, 0, none, 0, 0, none, 0, 0, none, 0, 0⟩ g r, b < w2.heap.size := fun b hb => by
   rcases RuV.mem.1 hb with e | e | e | e | e
   ·cases e
   ·cases e
   ·cases e
   ·rw [e]; exact kg0.lt
   ·rw [e]; exact kr0.lt
  have hro := set_onto (B := w.heap.size) (X := RuV.X ⟨none, 0, 0, none, 0, 0, none, 0, 0, none, 0, 0, none, 0, 0⟩ g r) hos (by omega) hX hbz
  have hrg : Rg 23 1 ERow (w3.alloc (.cells #[.slice As ms cs] 23)) w.heap.size (RuV.X ⟨none, 0, 0, some ⟨w3.heap.size, 0, none⟩, 1, 1, none, 0, 0, none, 0, 0, none, 0, 0⟩ g r) (some ⟨w3.heap.size, 0, none⟩) 1 1 [[.slice As ms cs]] [xs] := by
   refine ⟨hw, ⟨rfl, hro.2.1, fun i c x h1 h2 => ?_⟩, fun b e => RuV.mem.2 (.inl e)⟩
   have h3 := hro.2.2 i c x h1 h2
   cases i with
   | succ i => simp at h1
   | zero =>
    simp at h1 h2
    subst h1; subst h2
    refine ⟨As, ms, cs, rfl, (rdb hos (D := fun b => w2.heap.size ≤ b ∧ b < w3.heap.size) (fun b e1 => ?_)).mono (fun b hb => ⟨by omega, by rw [World.size_alloc]; omega, fun h5 => ?_⟩) (fun b hb => hbz.block b hb.2), hos.cap⟩
    ·obtain ⟨h6, h7, _⟩ := hos.blk b e1; exact ⟨h6, h7⟩
    ·rcases RuV.mem.1 h5 with e | e | e | e | e
     ·have : w3.heap.size = b := by simpa using e
      omega
     ·cases e
     ·cases e
     ·have := kg0.lt; omega
     ·have := kr0.lt; omega
  exact ⟨k4.set_ 1 _, kr4.far (by show r ≠ g; omega) _, ⟨SlE.nil, hd_zero⟩, ⟨SlE.nil, hd_zero⟩, ⟨_, hrg.set em_rows (p := ⟨g, 1, none⟩) (.inl (RuS.gX _ g r)) (fun e => absurd (show w3.heap.size = g by simpa using e) (by have := kg3.lt; omega)) _⟩, Ow.nil _ _ _ _, ⟨[], Ow.nil _ _ _ _, RowOf.nil⟩, (hu4.alloc (by omega) _).set (by show w.heap.size ≤ g; omega) hg _, by omega, hrw, hne⟩
 have hB : RulB ⟨[], [xs], [], [], [], 0⟩ := ⟨by simp, by simp, by simp, by simp, fun s hs => by simp at hs; rw [hs]; exact hxl⟩
 have z1 := (kg3.alloc (.cells #[.slice As ms cs] 23)).frozen 1
 have z2 := bx (kg3.alloc (.cells #[.slice As ms cs] 23)) 1 rfl
 have HST := Lib.hid hst
 have HB := Lib.hid hB
 clear HC hu2 kr0 kg0 hs2 x3 hos hms hu3 kg3 kr3 hxl hst hB
 go_upto_region 4 with fail
 clear z1 z2
 have hst := HST.out
 have hB := HB.out
 clear HST HB
 generalize (w3.alloc (.cells #[.slice As ms cs] 23)).setCell ⟨g, 1, none⟩ (.slice (some ⟨w3.heap.size, 0, none⟩) 1 1) = wr at *
 obtain ⟨u, hu0, hub, hul, hua⟩ : ∃ u : Rul, (⟨[], [xs], [], [], [], 0⟩ : Rul) = u ∧ u.inn = [xs] ∧ u.out = [] ∧ u.calls = [] := ⟨_, rfl, rfl, rfl, rfl⟩
 obtain ⟨v, hv0, hv1, hv2, hv3⟩ : ∃ v : RuV, (⟨none, 0, 0, some ⟨w3.heap.size, 0, none⟩, 1, 1, none, 0, 0, none, 0, 0, none, 0, 0⟩ : RuV) = v ∧ v.im = 1 ∧ v.on' = 0 ∧ v.ln = 0 := ⟨_, rfl, rfl, rfl, rfl⟩
 rw [hu0] at hst hB
 rw [hv0] at hst
 have HV := Lib.hid (And.intro hv1 (And.intro hv2 hv3))
 have HU := Lib.hid (And.intro hub (And.intro hul hua))
 have hmb : v.im ≤ 3 := by omega
 clear hu0 hv0 hv1 hv2 hv3 hub hul hua
 by_cases hk6 : kind = 6
 ·subst hk6
  have y1 := bx hst.k 1 rfl
  have HO := Lib.hid hst
  have HSX := Lib.hid fun (W : World) (bW : Up gm wr W) => HS1.out W (hst.up.trans bW)
  have hgl := hst.lt.1
  have hwl := hst.up.size
  have hwg : gm < wr.heap.size := by omega
  clear hst
  go_upto_region 5 with fail
  have HS := Lib.hid fun (W : World) (bW : Up gm wr W) => (show Held1 W from held1 _)
  have bb := Up.refl gm wr
  refine wp_region_held_drew (S := fun w' => Held1 w') (by kernel_rfl) ?_ (fun hHeld => ?_)
  ·exact HS.out _ (bb.drewN 1)
  replace bb := bb.drewN 1
  change Up _ _ wr.drew at bb
  generalize hw0 : wr.drew = W0 at hHeld bb ⊢
  clear hw0
  refine tkC 0 ?_
  refine tkC 2 ?_
  refine rd2 1 3 (fun K hK => ?_) (fun K hK => ?_)
  ·have yL : W0.cell? ⟨g, 1, none⟩ = some (.slice v.iA v.im v.ic') := bb.cell y1 (by show g ≠ gm; omega)
   refine wy ?_
   go_simp
   clear hHeld
   refine hK.out _ _ (held1 _) fun hHeld => ?_
   clear hK K
   clear yL
   refine rd1 3 fun K hK => ?_
   refine wy ?_
   go_simp
   clear hHeld
   go_at_call 87
   (with_reducible refine (HSX.out _ bb).mono ?_)
   rintro e V1 ⟨As, ms, cs1, ys, rfl, hms, hos, bn⟩
   go_wp2_with fail
   refine hK.out _ _ (held1 _) fun hHeld => ?_
   clear hK K
   have hos1 : Ow 3 1 V1 wr.heap.size As ms cs1 (ic ys) := hos.lower bb.size
   replace bb := bb.trans bn
   clear bn hos
   refine rd1 4 fun K hK => ?_
   refine wy ?_
   go_simp
   clear hHeld
   refine hK.out _ _ (held1 _) fun hHeld => ?_
   clear hK K
   have bz : Below V1.heap.size V1 (V1.alloc (.cells #[.slice As ms cs1] 23)) := below_lit _ _ (Below.refl _ _) _
   have hro := set_onto (B := w.heap.size) (X := v.X g r) hos1 hwl HO.out.xlt bz
   have bb2 := bb.alloc (by have := bb.size; omega) (.cells #[.slice As ms cs1] 23)
   have hnw := news_new V1 [.slice As ms cs1] 23
   have hst := HO.out.upd hg bb2
   have hyl : ys.length ≤ 4 := by have := hos1.len; rw [ic_len] at this; omega
   clear bb bz
   have bb := bb2
   clear bb2
   change 0 < 1 → ∃ b o, _ ∧ ∀ j u, _ → (V1.alloc (.cells #[.slice As ms cs1] 23)).cell? _ = _ at hnw
   obtain ⟨V2, hV⟩ : ∃ wN, V1.alloc (.cells #[.slice As ms cs1] 23) = wN := ⟨_, rfl⟩
   rw [hV] at hro hnw hst bb hHeld ⊢
   clear hV
   obtain ⟨css, hi⟩ := hst.inn
   refine rd1 5 fun K hK => ?_
   clear hHeld
   have hs4 : w.heap.size ≤ V2.heap.size := by have := bb.size; omega
   refine appStep elt_row (by kernel_rfl) _ _ rfl V2 w.heap.size _ _ _ css.flatten _ 1 1 [.slice As ms cs1] (by rfl) (by rfl) hi.ow rfl hnw (by simp [Value.oneCell']) (by omega) hs4 ?_
   intro A' c' W4 ho4 hg4 hb4 hat4
   obtain ⟨k4, hp9⟩ := hst.pushIn hg hi (m := 1) (ds := [[.slice As ms cs1]]) hro (by simpa using ho4) hg4 hb4 hat4
   have g0 := bx k4 1 rfl
   have z0 := k4.frozen 1
   clear ho4 hg4 hb4 hat4 hs4 hnw k4 hst hi hro
   refine hkG hK (held1 _) fun hHeld => ?_
   clear hK K
   refine tkC 6 ?_
   refine rd1 7 fun K hK => ?_
   refine wy ?_
   go_simp
   clear hHeld
   refine hK.out _ _ (held1 _) fun hHeld => ?_
   clear hK K
   refine wpAnyH_done (by kernel_rfl) ?_ _
   clear hHeld HS g0 z0 bb y1 HO HSX
   have hB2 := hB.inn_app (ys := [ys]) (by rw [HU.out.1]; simp) (fun s hs => by rw [List.mem_singleton] at hs; rw [hs]; exact hyl)
   clear hB
   obtain ⟨wr2, hwr2⟩ : ∃ x, W4.setCell ⟨g, 1, none⟩ (.slice A' (v.im + 1) c') = x := ⟨_, rfl⟩
   have HST := Lib.hid hp9
   rw [hwr2] at hp9 ⊢
   clear hwr2 HST
   obtain ⟨v2, hv2'⟩ : ∃ x : RuV, ({ v with iA := A', im := v.im + 1, ic' := c' } : RuV) = x := ⟨_, rfl⟩
   obtain ⟨u2, hu2'⟩ : ∃ x : Rul, ({ u with inn := u.inn ++ [ys] } : Rul) = x := ⟨_, rfl⟩
   rw [hv2', hu2'] at hp9
   rw [hu2'] at hB2
   clear hv2' hu2' HV HU hmb
   obtain ⟨wr, hwr⟩ : ∃ x, wr2 = x := ⟨_, rfl⟩
   rw [hwr] at hp9 ⊢
   have hst := hp9
   clear hp9 hwr
   have HC := Lib.hid (show Calls Tryd.prog 40 #[.pointer (some ⟨gm, 0, none⟩), .int .i64 41] wr (NextR gm 41 wr) from HN.out 41 (by omega) (by omega) wr hst.up)
   go_wp2_with fail
   refine HC.out.mono ?_
   rintro e w3 ⟨x, rfl, hx, hb⟩
   replace hst := hst.upd hg hb
   clear HC hb
   obtain ⟨wr, hwr⟩ : ∃ x, w3 = x := ⟨_, rfl⟩
   rw [hwr] at hst ⊢
   clear hwr w3
   have y5 := bx hst.k 5 rfl
   have z5 := hst.k.frozen 5
   have hsx := hst.setX hg ((x : Int) * 10 - 200)
   have HSX := Lib.hid hsx
   clear hsx
   go_upto_region 7 with fail
   clear y5 z5 hst
   obtain ⟨w5, hw5⟩ : ∃ y, wr.setCell ⟨g, 5, none⟩ (.int .i64 ((x : Int) * 10 - 200)) = y := ⟨_, rfl⟩
   have hst := HSX.out
   rw [hw5] at hst
   rw [hw5]
   clear HSX hw5
   have hB := hB2.x_ ((x : Int) * 10 - 200)
   clear hB2
   obtain ⟨u, hu⟩ : ∃ y : Rul, ({ u2 with x := (x : Int) * 10 - 200 } : Rul) = y := ⟨_, rfl⟩
   obtain ⟨wr, hwr⟩ : ∃ y, w5 = y := ⟨_, rfl⟩
   obtain ⟨v, hv⟩ : ∃ y, v2 = y := ⟨_, rfl⟩
   rw [hu, hwr, hv] at hst
   rw [hu] at hB
   rw [hwr]
   clear hu hwr hv
   have y0 := bx hst.k 0 rfl
   have y1 := bx hst.k 1 rfl
   have y2 := bx hst.k 2 rfl
   have y3 := bx hst.k 3 rfl
   have y4 := bx hst.k 4 rfl
   have y5 := bx hst.k 5 rfl
   have r0 := bx hst.kr 0 rfl
   have f0 := hst.kr.frozen 0
   have r1 := bx hst.kr 1 rfl
   have f1 := hst.kr.frozen 1
   have r2 := bx hst.kr 2 rfl
   have f2 := hst.kr.frozen 2
   have r3 := bx hst.kr 3 rfl
   have f3 := hst.kr.frozen 3
   have r4 := bx hst.kr 4 rfl
   have f4 := hst.kr.frozen 4
   have r5 := bx hst.kr 5 rfl
   have f5 := hst.kr.frozen 5
   have k5 := store6_bk hst.kr (.slice v.bA v.bn v.bc) (.slice v.iA v.im v.ic') (.slice v.aA v.an v.ac) (.slice v.oA v.on' v.oc) (.slice v.lA v.ln v.lc) (.int .i64 u.x)
   have hu5 := hst.up.set6 hst.lt.2.1 hg (.slice v.bA v.bn v.bc) (.slice v.iA v.im v.ic') (.slice v.aA v.an v.ac) (.slice v.oA v.on' v.oc) (.slice v.lA v.ln v.lc) (.int .i64 u.x)
   obtain ⟨hk5, hs5⟩ := store6_far wr r (.slice v.bA v.bn v.bc) (.slice v.iA v.im v.ic') (.slice v.aA v.an v.ac) (.slice v.oA v.on' v.oc) (.slice v.lA v.ln v.lc) (.int .i64 u.x)
   have hdn := hst.done (store6 wr r (.slice v.bA v.bn v.bc) (.slice v.iA v.im v.ic') (.slice v.aA v.an v.ac) (.slice v.oA v.on' v.oc) (.slice v.lA v.ln v.lc) (.int .i64 u.x)) hk5 hs5
   unfold RuV.cells at hdn
   unfold store6 at k5 hu5 hdn
   have HF := Lib.hid (And.intro k5 (And.intro hdn hu5))
   clear hk5 hs5 k5 hdn hu5 hst

   go_cut [] (fun wx => Bk wx r 58 #[.slice v.bA v.bn v.bc, .slice v.iA v.im v.ic', .slice v.aA v.an v.ac, .slice v.oA v.on' v.oc, .slice v.lA v.ln v.lc, .int .i64 u.x] ∧ ERul wx (fun b => w.heap.size ≤ b ∧ b < wx.heap.size) [.slice v.bA v.bn v.bc, .slice v.iA v.im v.ic', .slice v.aA v.an v.ac, .slice v.oA v.on' v.oc, .slice v.lA v.ln v.lc, .int .i64 u.x] u ∧ Up gm w wx)
   case first =>
    go_wp2_with fail
    go_meet
    exact HF.out
   case rest =>
    clear HF
    obtain ⟨k5, hdn, hu5⟩ := hcut
    have q0 := bx k5 0 rfl
    have q1 := bx k5 1 rfl
    have q2 := bx k5 2 rfl
    have q3 := bx k5 3 rfl
    have q4 := bx k5 4 rfl
    have q5 := bx k5 5 rfl
    clear k5
    go_wp2_with (exact bodyPost_ret (v := .agg #[.slice v.bA v.bn v.bc, .slice v.iA v.im v.ic', .slice v.aA v.an v.ac, .slice v.oA v.on' v.oc, .slice v.lA v.ln v.lc, .int .i64 u.x]) (by simp [results, Tryd.results71, go_sem, q0, q1, q2, q3, q4, q5]) rfl ⟨_, u, rfl, hdn, hB, hu5⟩)





  ·refine wy ?_
   go_simp
   clear hHeld
   go_at_call 87
   (with_reducible refine (HSX.out _ bb).mono ?_)
   rintro e V1 ⟨As, ms, cs1, ys, rfl, hms, hos, bn⟩
   go_wp2_with fail
   refine hK.out _ _ (held1 _) fun hHeld => ?_
   clear hK K
   have hos1 : Ow 3 1 V1 wr.heap.size As ms cs1 (ic ys) := hos.lower bb.size
   replace bb := bb.trans bn
   clear bn hos
   refine rd2 1 4 (fun K hK => ?_) (fun K hK => ?_)
   ·have yL : V1.cell? ⟨g, 1, none⟩ = some (.slice v.iA v.im v.ic') := bb.cell y1 (by show g ≠ gm; omega)
    refine wy ?_
    go_simp
    clear hHeld
    refine hK.out _ _ (held1 _) fun hHeld => ?_
    clear hK K
    clear yL
    refine rd1 4 fun K hK => ?_
    refine wy ?_
    go_simp
    clear hHeld
    refine hK.out _ _ (held1 _) fun hHeld => ?_
    clear hK K
    have bz : Below V1.heap.size V1 (V1.alloc (.cells #[.slice As ms cs1] 23)) := below_lit _ _ (Below.refl _ _) _
    have hro := set_onto (B := w.heap.size) (X := v.X g r) hos1 hwl HO.out.xlt bz
    have bb2 := bb.alloc (by have := bb.size; omega) (.cells #[.slice As ms cs1] 23)
    have hnw := news_new V1 [.slice As ms cs1] 23
    have hst := HO.out.upd hg bb2
    have hyl : ys.length ≤ 4 := by have := hos1.len; rw [ic_len] at this; omega
    clear bb bz
    have bb := bb2
    clear bb2
    change 0 < 1 → ∃ b o, _ ∧ ∀ j u, _ → (V1.alloc (.cells #[.slice As ms cs1] 23)).cell? _ = _ at hnw
    obtain ⟨V2, hV⟩ : ∃ wN, V1.alloc (.cells #[.slice As ms cs1] 23) = wN := ⟨_, rfl⟩
    rw [hV] at hro hnw hst bb hHeld ⊢
    clear hV
    obtain ⟨css, hi⟩ := hst.inn
    refine rd1 5 fun K hK => ?_
    clear hHeld
    have hs4 : w.heap.size ≤ V2.heap.size := by have := bb.size; omega
    refine appStep elt_row (by kernel_rfl) _ _ rfl V2 w.heap.size _ _ _ css.flatten _ 1 1 [.slice As ms cs1] (by rfl) (by rfl) hi.ow rfl hnw (by simp [Value.oneCell']) (by omega) hs4 ?_
    intro A' c' W4 ho4 hg4 hb4 hat4
    obtain ⟨k4, hp9⟩ := hst.pushIn hg hi (m := 1) (ds := [[.slice As ms cs1]]) hro (by simpa using ho4) hg4 hb4 hat4
    have g0 := bx k4 1 rfl
    have z0 := k4.frozen 1
    clear ho4 hg4 hb4 hat4 hs4 hnw k4 hst hi hro
    refine hkG hK (held1 _) fun hHeld => ?_
    clear hK K
    refine tkC 6 ?_
    refine rd1 7 fun K hK => ?_
    refine wy ?_
    go_simp
    clear hHeld
    refine hK.out _ _ (held1 _) fun hHeld => ?_
    clear hK K
    refine wpAnyH_done (by kernel_rfl) ?_ _
    clear hHeld HS g0 z0 bb y1 HO HSX
    have hB2 := hB.inn_app (ys := [ys]) (by rw [HU.out.1]; simp) (fun s hs => by rw [List.mem_singleton] at hs; rw [hs]; exact hyl)
    clear hB
    obtain ⟨wr2, hwr2⟩ : ∃ x, W4.setCell ⟨g, 1, none⟩ (.slice A' (v.im + 1) c') = x := ⟨_, rfl⟩
    have HST := Lib.hid hp9
    rw [hwr2] at hp9 ⊢
    clear hwr2 HST
    obtain ⟨v2, hv2'⟩ : ∃ x : RuV, ({ v with iA := A', im := v.im + 1, ic' := c' } : RuV) = x := ⟨_, rfl⟩
    obtain ⟨u2, hu2'⟩ : ∃ x : Rul, ({ u with inn := u.inn ++ [ys] } : Rul) = x := ⟨_, rfl⟩
    rw [hv2', hu2'] at hp9
    rw [hu2'] at hB2
    clear hv2' hu2' HV HU hmb
    obtain ⟨wr, hwr⟩ : ∃ x, wr2 = x := ⟨_, rfl⟩
    rw [hwr] at hp9 ⊢
    have hst := hp9
    clear hp9 hwr
    have HC := Lib.hid (show Calls Tryd.prog 40 #[.pointer (some ⟨gm, 0, none⟩), .int .i64 41] wr (NextR gm 41 wr) from HN.out 41 (by omega) (by omega) wr hst.up)
    go_wp2_with fail
    refine HC.out.mono ?_
    rintro e w3 ⟨x, rfl, hx, hb⟩
    replace hst := hst.upd hg hb
    clear HC hb
    obtain ⟨wr, hwr⟩ : ∃ x, w3 = x := ⟨_, rfl⟩
    rw [hwr] at hst ⊢
    clear hwr w3
    have y5 := bx hst.k 5 rfl
    have z5 := hst.k.frozen 5
    have hsx := hst.setX hg ((x : Int) * 10 - 200)
    have HSX := Lib.hid hsx
    clear hsx
    go_upto_region 7 with fail
    clear y5 z5 hst
    obtain ⟨w5, hw5⟩ : ∃ y, wr.setCell ⟨g, 5, none⟩ (.int .i64 ((x : Int) * 10 - 200)) = y := ⟨_, rfl⟩
    have hst := HSX.out
    rw [hw5] at hst
    rw [hw5]
    clear HSX hw5
    have hB := hB2.x_ ((x : Int) * 10 - 200)
    clear hB2
    obtain ⟨u, hu⟩ : ∃ y : Rul, ({ u2 with x := (x : Int) * 10 - 200 } : Rul) = y := ⟨_, rfl⟩
    obtain ⟨wr, hwr⟩ : ∃ y, w5 = y := ⟨_, rfl⟩
    obtain ⟨v, hv⟩ : ∃ y, v2 = y := ⟨_, rfl⟩
    rw [hu, hwr, hv] at hst
    rw [hu] at hB
    rw [hwr]
    clear hu hwr hv
    have y0 := bx hst.k 0 rfl
    have y1 := bx hst.k 1 rfl
    have y2 := bx hst.k 2 rfl
    have y3 := bx hst.k 3 rfl
    have y4 := bx hst.k 4 rfl
    have y5 := bx hst.k 5 rfl
    have r0 := bx hst.kr 0 rfl
    have f0 := hst.kr.frozen 0
    have r1 := bx hst.kr 1 rfl
    have f1 := hst.kr.frozen 1
    have r2 := bx hst.kr 2 rfl
    have f2 := hst.kr.frozen 2
    have r3 := bx hst.kr 3 rfl
    have f3 := hst.kr.frozen 3
    have r4 := bx hst.kr 4 rfl
    have f4 := hst.kr.frozen 4
    have r5 := bx hst.kr 5 rfl
    have f5 := hst.kr.frozen 5
    have k5 := store6_bk hst.kr (.slice v.bA v.bn v.bc) (.slice v.iA v.im v.ic') (.slice v.aA v.an v.ac) (.slice v.oA v.on' v.oc) (.slice v.lA v.ln v.lc) (.int .i64 u.x)
    have hu5 := hst.up.set6 hst.lt.2.1 hg (.slice v.bA v.bn v.bc) (.slice v.iA v.im v.ic') (.slice v.aA v.an v.ac) (.slice v.oA v.on' v.oc) (.slice v.lA v.ln v.lc) (.int .i64 u.x)
    obtain ⟨hk5, hs5⟩ := store6_far wr r (.slice v.bA v.bn v.bc) (.slice v.iA v.im v.ic') (.slice v.aA v.an v.ac) (.slice v.oA v.on' v.oc) (.slice v.lA v.ln v.lc) (.int .i64 u.x)
    have hdn := hst.done (store6 wr r (.slice v.bA v.bn v.bc) (.slice v.iA v.im v.ic') (.slice v.aA v.an v.ac) (.slice v.oA v.on' v.oc) (.slice v.lA v.ln v.lc) (.int .i64 u.x)) hk5 hs5
    unfold RuV.cells at hdn
    unfold store6 at k5 hu5 hdn
    have HF := Lib.hid (And.intro k5 (And.intro hdn hu5))
    clear hk5 hs5 k5 hdn hu5 hst

    go_cut [] (fun wx => Bk wx r 58 #[.slice v.bA v.bn v.bc, .slice v.iA v.im v.ic', .slice v.aA v.an v.ac, .slice v.oA v.on' v.oc, .slice v.lA v.ln v.lc, .int .i64 u.x] ∧ ERul wx (fun b => w.heap.size ≤ b ∧ b < wx.heap.size) [.slice v.bA v.bn v.bc, .slice v.iA v.im v.ic', .slice v.aA v.an v.ac, .slice v.oA v.on' v.oc, .slice v.lA v.ln v.lc, .int .i64 u.x] u ∧ Up gm w wx)
    case first =>
     go_wp2_with fail
     go_meet
     exact HF.out
    case rest =>
     clear HF
     obtain ⟨k5, hdn, hu5⟩ := hcut
     have q0 := bx k5 0 rfl
     have q1 := bx k5 1 rfl
     have q2 := bx k5 2 rfl
     have q3 := bx k5 3 rfl
     have q4 := bx k5 4 rfl
     have q5 := bx k5 5 rfl
     clear k5
     go_wp2_with (exact bodyPost_ret (v := .agg #[.slice v.bA v.bn v.bc, .slice v.iA v.im v.ic', .slice v.aA v.an v.ac, .slice v.oA v.on' v.oc, .slice v.lA v.ln v.lc, .int .i64 u.x]) (by simp [results, Tryd.results71, go_sem, q0, q1, q2, q3, q4, q5]) rfl ⟨_, u, rfl, hdn, hB, hu5⟩)




   ·refine wy ?_
    go_simp
    clear hHeld
    refine hK.out _ _ (held1 _) fun hHeld => ?_
    clear hK K
    have bz : Below V1.heap.size V1 (V1.alloc (.cells #[.slice As ms cs1] 23)) := below_lit _ _ (Below.refl _ _) _
    have hro := set_onto (B := w.heap.size) (X := v.X g r) hos1 hwl HO.out.xlt bz
    have bb2 := bb.alloc (by have := bb.size; omega) (.cells #[.slice As ms cs1] 23)
    have hnw := news_new V1 [.slice As ms cs1] 23
    have hst := HO.out.upd hg bb2
    have hyl : ys.length ≤ 4 := by have := hos1.len; rw [ic_len] at this; omega
    clear bb bz
    have bb := bb2
    clear bb2
    change 0 < 1 → ∃ b o, _ ∧ ∀ j u, _ → (V1.alloc (.cells #[.slice As ms cs1] 23)).cell? _ = _ at hnw
    obtain ⟨V2, hV⟩ : ∃ wN, V1.alloc (.cells #[.slice As ms cs1] 23) = wN := ⟨_, rfl⟩
    rw [hV] at hro hnw hst bb hHeld ⊢
    clear hV
    obtain ⟨css, hi⟩ := hst.inn
    refine rd1 1 fun K hK => ?_
    have yL : V2.cell? ⟨g, 1, none⟩ = some (.slice v.iA v.im v.ic') := bb.cell y1 (by show g ≠ gm; omega)
    refine wy ?_
    go_simp
    clear hHeld
    refine hK.out _ _ (held1 _) fun hHeld => ?_
    clear hK K
    clear yL
    refine rd1 5 fun K hK => ?_
    clear hHeld
    have hs4 : w.heap.size ≤ V2.heap.size := by have := bb.size; omega
    refine appStep elt_row (by kernel_rfl) _ _ rfl V2 w.heap.size _ _ _ css.flatten _ 1 1 [.slice As ms cs1] (by rfl) (by rfl) hi.ow rfl hnw (by simp [Value.oneCell']) (by omega) hs4 ?_
    intro A' c' W4 ho4 hg4 hb4 hat4
    obtain ⟨k4, hp9⟩ := hst.pushIn hg hi (m := 1) (ds := [[.slice As ms cs1]]) hro (by simpa using ho4) hg4 hb4 hat4
    have g0 := bx k4 1 rfl
    have z0 := k4.frozen 1
    clear ho4 hg4 hb4 hat4 hs4 hnw k4 hst hi hro
    refine hkG hK (held1 _) fun hHeld => ?_
    clear hK K
    refine tkC 6 ?_
    refine rd1 7 fun K hK => ?_
    refine wy ?_
    go_simp
    clear hHeld
    refine hK.out _ _ (held1 _) fun hHeld => ?_
    clear hK K
    refine wpAnyH_done (by kernel_rfl) ?_ _
    clear hHeld HS g0 z0 bb y1 HO HSX
    have hB2 := hB.inn_app (ys := [ys]) (by rw [HU.out.1]; simp) (fun s hs => by rw [List.mem_singleton] at hs; rw [hs]; exact hyl)
    clear hB
    obtain ⟨wr2, hwr2⟩ : ∃ x, W4.setCell ⟨g, 1, none⟩ (.slice A' (v.im + 1) c') = x := ⟨_, rfl⟩
    have HST := Lib.hid hp9
    rw [hwr2] at hp9 ⊢
    clear hwr2 HST
    obtain ⟨v2, hv2'⟩ : ∃ x : RuV, ({ v with iA := A', im := v.im + 1, ic' := c' } : RuV) = x := ⟨_, rfl⟩
    obtain ⟨u2, hu2'⟩ : ∃ x : Rul, ({ u with inn := u.inn ++ [ys] } : Rul) = x := ⟨_, rfl⟩
    rw [hv2', hu2'] at hp9
    rw [hu2'] at hB2
    clear hv2' hu2' HV HU hmb
    obtain ⟨wr, hwr⟩ : ∃ x, wr2 = x := ⟨_, rfl⟩
    rw [hwr] at hp9 ⊢
    have hst := hp9
    clear hp9 hwr
    have HC := Lib.hid (show Calls Tryd.prog 40 #[.pointer (some ⟨gm, 0, none⟩), .int .i64 41] wr (NextR gm 41 wr) from HN.out 41 (by omega) (by omega) wr hst.up)
    go_wp2_with fail
    refine HC.out.mono ?_
    rintro e w3 ⟨x, rfl, hx, hb⟩
    replace hst := hst.upd hg hb
    clear HC hb
    obtain ⟨wr, hwr⟩ : ∃ x, w3 = x := ⟨_, rfl⟩
    rw [hwr] at hst ⊢
    clear hwr w3
    have y5 := bx hst.k 5 rfl
    have z5 := hst.k.frozen 5
    have hsx := hst.setX hg ((x : Int) * 10 - 200)
    have HSX := Lib.hid hsx
    clear hsx
    go_upto_region 7 with fail
    clear y5 z5 hst
    obtain ⟨w5, hw5⟩ : ∃ y, wr.setCell ⟨g, 5, none⟩ (.int .i64 ((x : Int) * 10 - 200)) = y := ⟨_, rfl⟩
    have hst := HSX.out
    rw [hw5] at hst
    rw [hw5]
    clear HSX hw5
    have hB := hB2.x_ ((x : Int) * 10 - 200)
    clear hB2
    obtain ⟨u, hu⟩ : ∃ y : Rul, ({ u2 with x := (x : Int) * 10 - 200 } : Rul) = y := ⟨_, rfl⟩
    obtain ⟨wr, hwr⟩ : ∃ y, w5 = y := ⟨_, rfl⟩
    obtain ⟨v, hv⟩ : ∃ y, v2 = y := ⟨_, rfl⟩
    rw [hu, hwr, hv] at hst
    rw [hu] at hB
    rw [hwr]
    clear hu hwr hv
    have y0 := bx hst.k 0 rfl
    have y1 := bx hst.k 1 rfl
    have y2 := bx hst.k 2 rfl
    have y3 := bx hst.k 3 rfl
    have y4 := bx hst.k 4 rfl
    have y5 := bx hst.k 5 rfl
    have r0 := bx hst.kr 0 rfl
    have f0 := hst.kr.frozen 0
    have r1 := bx hst.kr 1 rfl
    have f1 := hst.kr.frozen 1
    have r2 := bx hst.kr 2 rfl
    have f2 := hst.kr.frozen 2
    have r3 := bx hst.kr 3 rfl
    have f3 := hst.kr.frozen 3
    have r4 := bx hst.kr 4 rfl
    have f4 := hst.kr.frozen 4
    have r5 := bx hst.kr 5 rfl
    have f5 := hst.kr.frozen 5
    have k5 := store6_bk hst.kr (.slice v.bA v.bn v.bc) (.slice v.iA v.im v.ic') (.slice v.aA v.an v.ac) (.slice v.oA v.on' v.oc) (.slice v.lA v.ln v.lc) (.int .i64 u.x)
    have hu5 := hst.up.set6 hst.lt.2.1 hg (.slice v.bA v.bn v.bc) (.slice v.iA v.im v.ic') (.slice v.aA v.an v.ac) (.slice v.oA v.on' v.oc) (.slice v.lA v.ln v.lc) (.int .i64 u.x)
    obtain ⟨hk5, hs5⟩ := store6_far wr r (.slice v.bA v.bn v.bc) (.slice v.iA v.im v.ic') (.slice v.aA v.an v.ac) (.slice v.oA v.on' v.oc) (.slice v.lA v.ln v.lc) (.int .i64 u.x)
    have hdn := hst.done (store6 wr r (.slice v.bA v.bn v.bc) (.slice v.iA v.im v.ic') (.slice v.aA v.an v.ac) (.slice v.oA v.on' v.oc) (.slice v.lA v.ln v.lc) (.int .i64 u.x)) hk5 hs5
    unfold RuV.cells at hdn
    unfold store6 at k5 hu5 hdn
    have HF := Lib.hid (And.intro k5 (And.intro hdn hu5))
    clear hk5 hs5 k5 hdn hu5 hst

    go_cut [] (fun wx => Bk wx r 58 #[.slice v.bA v.bn v.bc, .slice v.iA v.im v.ic', .slice v.aA v.an v.ac, .slice v.oA v.on' v.oc, .slice v.lA v.ln v.lc, .int .i64 u.x] ∧ ERul wx (fun b => w.heap.size ≤ b ∧ b < wx.heap.size) [.slice v.bA v.bn v.bc, .slice v.iA v.im v.ic', .slice v.aA v.an v.ac, .slice v.oA v.on' v.oc, .slice v.lA v.ln v.lc, .int .i64 u.x] u ∧ Up gm w wx)
    case first =>
     go_wp2_with fail
     go_meet
     exact HF.out
    case rest =>
     clear HF
     obtain ⟨k5, hdn, hu5⟩ := hcut
     have q0 := bx k5 0 rfl
     have q1 := bx k5 1 rfl
     have q2 := bx k5 2 rfl
     have q3 := bx k5 3 rfl
     have q4 := bx k5 4 rfl
     have q5 := bx k5 5 rfl
     clear k5
     go_wp2_with (exact bodyPost_ret (v := .agg #[.slice v.bA v.bn v.bc, .slice v.iA v.im v.ic', .slice v.aA v.an v.ac, .slice v.oA v.on' v.oc, .slice v.lA v.ln v.lc, .int .i64 u.x]) (by simp [results, Tryd.results71, go_sem, q0, q1, q2, q3, q4, q5]) rfl ⟨_, u, rfl, hdn, hB, hu5⟩)






 ·have t6 : (kind == 6) = false := by simpa using hk6
  have t6' : decide (kind = 6) = false := by simpa using hk6
  clear hk6
  have HC := Lib.hid (show Calls Tryd.prog 40 #[.pointer (some ⟨gm, 0, none⟩), .int .i64 2] wr (NextR gm 2 wr) from HN.out 2 (by omega) (by omega) wr hst.up)
  go_wp2_with fail
  refine HC.out.mono ?_
  rintro e w3 ⟨x, rfl, hx, hb⟩
  replace hst := hst.upd hg hb
  clear HC hb
  obtain ⟨wr, hwr⟩ : ∃ x, w3 = x := ⟨_, rfl⟩
  rw [hwr] at hst ⊢
  clear hwr w3
  have HCI := Lib.hid (And.intro HU.out.1 (And.intro HV.out.1 (And.intro HV.out.2.1 HV.out.2.2)))
  go_upto_if 41 with fail
  go_cut [] (fun wx => (∃ (v : RuV) (u : Rul), RuS gm w wx g r v u ∧ RulB u ∧ u.inn = [xs] ∧ v.im = 1 ∧ v.on' = 0 ∧ v.ln = 0))
  case first =>
   by_cases hx0 : x = 0
   ·subst hx0
    have HC := Lib.hid (HRW.out wr hst.up)
    go_wp2_with fail
    refine HC.out.mono ?_
    rintro e w4 ⟨A1, n1, c1, css1, xss1, rfl, hn1', hrg1, hl1, hu4⟩
    have hfin := rg_fin hrg1 (B := w.heap.size) hst.up.size hst.xlt
    have hxn1 := (hrg1.len em_rows).1
    have hst4 := hst.upd hg hu4
    have y0 := bx hst4.k 0 rfl
    have z0 := hst4.k.frozen 0
    have hst5 := hst4.setBack hg hfin
    have hB5 := hB.back_ (ys := xss1) (by omega) hl1
    have HST := Lib.hid hst5
    clear HC hst hst4 hst5 hrg1 hfin hu4 hl1 hxn1
    go_upto_region 10 with fail
    clear y0 z0
    have hst := HST.out
    generalize w4.setCell ⟨g, 0, none⟩ (.slice A1 n1 c1) = wr at *
    clear HST
    have HC := Lib.hid (HRW.out wr hst.up)
    go_wp2_with fail
    refine HC.out.mono ?_
    rintro e w5 ⟨A2, n2, c2, css2, xss2, rfl, hn2', hrg2, hl2, hu5⟩
    have hfin := rg_fin hrg2 (B := w.heap.size) hst.up.size hst.xlt
    have hxn2 := (hrg2.len em_rows).1
    have hst4 := hst.upd hg hu5
    have y0 := bx hst4.k 2 rfl
    have z0 := hst4.k.frozen 2
    have hst5 := hst4.setAhead hg hfin
    have hB6 := hB5.ahead_ (ys := xss2) (by omega) hl2
    clear HC hst hst4 hrg2 hfin hu5 hl2 hxn2
    go_wp2
    go_meet
    exact ⟨_, _, hst5, hB6, HCI.out.1, HCI.out.2.1, HCI.out.2.2.1, HCI.out.2.2.2⟩
   ·have x0 : ((x : Int) == 0) = false := by simp; omega
    have x0' : (x == 0) = false := by simpa using hx0
    clear hx0
    go_wp2
    go_meet
    exact ⟨v, u, hst, hB, HCI.out.1, HCI.out.2.1, HCI.out.2.2.1, HCI.out.2.2.2⟩
  case rest =>
   clear hst hB HU HV HCI hx hmb
   obtain ⟨v, u, hst, hB, hu1, hv1, hv2, hv3⟩ := hcut
   generalize hwcr : wc = wr at *
   clear hwcr wc
   have HV := Lib.hid (And.intro hv1 (And.intro hv2 hv3))
   have HU := Lib.hid (And.intro hu1 trivial)
   have hmb : v.im ≤ 3 := by omega
   have hob : v.on' ≤ 0 := by omega
   clear hu1 hv1 hv2 hv3
   go_upto_block 0 with fail
   go_cut [9, 10, 11, 12, 13] (fun _ _ _ _ _ wx => ∃ (v : RuV) (u : Rul), RuS gm w wx g r v u ∧ RulB u)
   case first =>
    have hxs : xs.length ≤ 4 := hB.l xs (by rw [HU.out.1]; simp)
    by_cases hk15 : kind = 1 ∨ kind = 5
    ·rcases hk15 with rfl | rfl
     all_goals
      go_upto_region 21 with fail
      obtain ⟨w7, hw7⟩ : ∃ x, wr = x := ⟨_, rfl⟩
      rw [hw7] at hst ⊢
      clear hw7 wr
      go_loopw [9] (fun iv wr => ∃ (v : RuV) (u : Rul) (i : Nat), iv = .int .i64 (i : Int) ∧ i ≤ xs.length ∧ RuS gm w wr g r v u ∧ RulB u ∧ u.inn = [xs] ∧ v.on' = i) (fun iv _ => xs.length - (intOf iv).toNat)
      case atStart => exact ⟨v, u, 0, rfl, by omega, hst, hB, HU.out.1, HV.out.2.1⟩
      case round =>
       clear hst hB HU HV hmb hob v u
       obtain ⟨v, u, i, rfl, hi, hst, hB, hu1, hon⟩ := hrel
       have HU := Lib.hid hu1
       have HON := Lib.hid hon
       have hob : v.on' ≤ 4 := by omega
       obtain ⟨gi, A0, c0, e1, y0, him⟩ := hst.first hu1
       have y1 : wr.cell? ⟨g, 1, none⟩ = some (.slice v.iA v.im v.ic') := bx hst.k 1 rfl
       rw [e1] at y1
       have imp : (0 : Int) < (v.im : Int) := by omega
       have HE1 := Lib.hid e1
       clear hu1 hon e1
       by_cases hlt : i < xs.length
       ·have in0 : (i : Int) < (xs.length : Int) := by omega
        have y3 := bx hst.k 3 rfl
        have HO := Lib.hid hst
        have hgl := hst.lt.1
        have hwl := hst.up.size
        have hwg : gm < wr.heap.size := by omega
        have HNX := Lib.hid fun (W : World) (bW : Up gm wr W) => (show Calls Tryd.prog 40 #[.pointer (some ⟨gm, 0, none⟩), .int .i64 (gn : Int)] W (NextR gm gn W) from HN.out gn hn0 (by omega) W (hst.up.trans bW))
        clear hst
        go_upto_region 23 with fail
        have HS := Lib.hid fun (W : World) (bW : Up gm wr W) => (show Held1 W from held1 _)
        have bb := Up.refl gm wr
        refine wp_region_held_drew (S := fun w' => Held1 w') (by kernel_rfl) ?_ (fun hHeld => ?_)
        ·exact HS.out _ (bb.drewN 1)
        replace bb := bb.drewN 1
        change Up _ _ wr.drew at bb
        generalize hw0 : wr.drew = W0 at hHeld bb ⊢
        clear hw0
        refine tkC 0 ?_
        refine tkC 2 ?_
        refine tkC 3 ?_
        refine rd2 1 4 (fun K hK => ?_) (fun K hK => ?_)
        ·have yL : W0.cell? ⟨g, 3, none⟩ = some (.slice v.oA v.on' v.oc) := bb.cell y3 (by show g ≠ gm; omega)
         refine wy ?_
         go_simp
         clear hHeld
         refine hK.out _ _ (held1 _) fun hHeld => ?_
         clear hK K
         clear yL
         refine rd1 4 fun K hK => ?_
         refine wy ?_
         go_simp
         clear hHeld
         go_at_call 40
         (with_reducible refine (HNX.out _ bb).mono ?_)
         rintro e V1 ⟨y, rfl, hy, bn⟩
         go_wp2_with fail
         refine hK.out _ _ (held1 _) fun hHeld => ?_
         clear hK K
         replace bb := bb.trans bn
         clear bn
         refine rd1 5 fun K hK => ?_
         refine wy ?_
         go_simp
         clear hHeld
         refine hK.out _ _ (held1 _) fun hHeld => ?_
         clear hK K
         have bb2 := bb.alloc (by have := bb.size; omega) (.cells #[.int .i64 (y : Int)] 3)
         have hnw := news_new V1 [.int .i64 (y : Int)] 3
         have hst := HO.out.upd hg bb2
         clear bb
         have bb := bb2
         clear bb2
         change 0 < 1 → ∃ b o, _ ∧ ∀ j u, _ → (V1.alloc (.cells #[.int .i64 (y : Int)] 3)).cell? _ = _ at hnw
         obtain ⟨V2, hV⟩ : ∃ wN, V1.alloc (.cells #[.int .i64 (y : Int)] 3) = wN := ⟨_, rfl⟩
         rw [hV] at hnw hst bb hHeld ⊢
         clear hV
         refine rd1 6 fun K hK => ?_
         clear hHeld
         have how := hst.out
         have hs4 : w.heap.size ≤ V2.heap.size := by have := bb.size; omega
         refine appStep elt_int (by kernel_rfl) _ _ rfl V2 (w.heap.size) _ _ _ (ic u.out) _ 1 1 [.int .i64 (y : Int)] (by rfl) (by rfl) how rfl hnw (by simp [Value.oneCell']) (by omega) hs4 ?_
         intro A' c' W4 ho4 hg4 hb4 hat4
         obtain ⟨k4, hp9⟩ := hst.pushOut hg ho4 hg4 hb4 hat4
         have g0 := bx k4 3 rfl
         have z0 := k4.frozen 3
         clear ho4 hg4 hb4 hat4 how hs4 hnw k4 hst
         refine hkG hK (held1 _) fun hHeld => ?_
         clear hK K
         refine tkC 7 ?_
         refine rd1 8 fun K hK => ?_
         refine wy ?_
         go_simp
         clear hHeld
         refine hK.out _ _ (held1 _) fun hHeld => ?_
         clear hK K
         refine wpAnyH_done (by kernel_rfl) ?_ _
         clear hHeld HS g0 z0 bb HO HNX
         go_wp2_with fail
         go_roundw
         case rel => exact ⟨_, _, i + 1, by go_num, by omega, hp9, hB.out _, HU.out, by show v.on' + 1 = i + 1; rw [HON.out]⟩
         case measure => simp [intOf] <;> omega





        ·refine wy ?_
         go_simp
         clear hHeld
         go_at_call 40
         (with_reducible refine (HNX.out _ bb).mono ?_)
         rintro e V1 ⟨y, rfl, hy, bn⟩
         go_wp2_with fail
         refine hK.out _ _ (held1 _) fun hHeld => ?_
         clear hK K
         replace bb := bb.trans bn
         clear bn
         refine rd2 1 5 (fun K hK => ?_) (fun K hK => ?_)
         ·have yL : V1.cell? ⟨g, 3, none⟩ = some (.slice v.oA v.on' v.oc) := bb.cell y3 (by show g ≠ gm; omega)
          refine wy ?_
          go_simp
          clear hHeld
          refine hK.out _ _ (held1 _) fun hHeld => ?_
          clear hK K
          clear yL
          refine rd1 5 fun K hK => ?_
          refine wy ?_
          go_simp
          clear hHeld
          refine hK.out _ _ (held1 _) fun hHeld => ?_
          clear hK K
          have bb2 := bb.alloc (by have := bb.size; omega) (.cells #[.int .i64 (y : Int)] 3)
          have hnw := news_new V1 [.int .i64 (y : Int)] 3
          have hst := HO.out.upd hg bb2
          clear bb
          have bb := bb2
          clear bb2
          change 0 < 1 → ∃ b o, _ ∧ ∀ j u, _ → (V1.alloc (.cells #[.int .i64 (y : Int)] 3)).cell? _ = _ at hnw
          obtain ⟨V2, hV⟩ : ∃ wN, V1.alloc (.cells #[.int .i64 (y : Int)] 3) = wN := ⟨_, rfl⟩
          rw [hV] at hnw hst bb hHeld ⊢
          clear hV
          refine rd1 6 fun K hK => ?_
          clear hHeld
          have how := hst.out
          have hs4 : w.heap.size ≤ V2.heap.size := by have := bb.size; omega
          refine appStep elt_int (by kernel_rfl) _ _ rfl V2 (w.heap.size) _ _ _ (ic u.out) _ 1 1 [.int .i64 (y : Int)] (by rfl) (by rfl) how rfl hnw (by simp [Value.oneCell']) (by omega) hs4 ?_
          intro A' c' W4 ho4 hg4 hb4 hat4
          obtain ⟨k4, hp9⟩ := hst.pushOut hg ho4 hg4 hb4 hat4
          have g0 := bx k4 3 rfl
          have z0 := k4.frozen 3
          clear ho4 hg4 hb4 hat4 how hs4 hnw k4 hst
          refine hkG hK (held1 _) fun hHeld => ?_
          clear hK K
          refine tkC 7 ?_
          refine rd1 8 fun K hK => ?_
          refine wy ?_
          go_simp
          clear hHeld
          refine hK.out _ _ (held1 _) fun hHeld => ?_
          clear hK K
          refine wpAnyH_done (by kernel_rfl) ?_ _
          clear hHeld HS g0 z0 bb HO HNX
          go_wp2_with fail
          go_roundw
          case rel => exact ⟨_, _, i + 1, by go_num, by omega, hp9, hB.out _, HU.out, by show v.on' + 1 = i + 1; rw [HON.out]⟩
          case measure => simp [intOf] <;> omega




         ·refine wy ?_
          go_simp
          clear hHeld
          refine hK.out _ _ (held1 _) fun hHeld => ?_
          clear hK K
          have bb2 := bb.alloc (by have := bb.size; omega) (.cells #[.int .i64 (y : Int)] 3)
          have hnw := news_new V1 [.int .i64 (y : Int)] 3
          have hst := HO.out.upd hg bb2
          clear bb
          have bb := bb2
          clear bb2
          change 0 < 1 → ∃ b o, _ ∧ ∀ j u, _ → (V1.alloc (.cells #[.int .i64 (y : Int)] 3)).cell? _ = _ at hnw
          obtain ⟨V2, hV⟩ : ∃ wN, V1.alloc (.cells #[.int .i64 (y : Int)] 3) = wN := ⟨_, rfl⟩
          rw [hV] at hnw hst bb hHeld ⊢
          clear hV
          refine rd1 1 fun K hK => ?_
          have yL : V2.cell? ⟨g, 3, none⟩ = some (.slice v.oA v.on' v.oc) := bb.cell y3 (by show g ≠ gm; omega)
          refine wy ?_
          go_simp
          clear hHeld
          refine hK.out _ _ (held1 _) fun hHeld => ?_
          clear hK K
          clear yL
          refine rd1 6 fun K hK => ?_
          clear hHeld
          have how := hst.out
          have hs4 : w.heap.size ≤ V2.heap.size := by have := bb.size; omega
          refine appStep elt_int (by kernel_rfl) _ _ rfl V2 (w.heap.size) _ _ _ (ic u.out) _ 1 1 [.int .i64 (y : Int)] (by rfl) (by rfl) how rfl hnw (by simp [Value.oneCell']) (by omega) hs4 ?_
          intro A' c' W4 ho4 hg4 hb4 hat4
          obtain ⟨k4, hp9⟩ := hst.pushOut hg ho4 hg4 hb4 hat4
          have g0 := bx k4 3 rfl
          have z0 := k4.frozen 3
          clear ho4 hg4 hb4 hat4 how hs4 hnw k4 hst
          refine hkG hK (held1 _) fun hHeld => ?_
          clear hK K
          refine tkC 7 ?_
          refine rd1 8 fun K hK => ?_
          refine wy ?_
          go_simp
          clear hHeld
          refine hK.out _ _ (held1 _) fun hHeld => ?_
          clear hK K
          refine wpAnyH_done (by kernel_rfl) ?_ _
          clear hHeld HS g0 z0 bb HO HNX
          go_wp2_with fail
          go_roundw
          case rel => exact ⟨_, _, i + 1, by go_num, by omega, hp9, hB.out _, HU.out, by show v.on' + 1 = i + 1; rw [HON.out]⟩
          case measure => simp [intOf] <;> omega






       ·have in0 : ¬ (i : Int) < (xs.length : Int) := by omega
        clear hlt HU HON
        go_wp2_with fail
        go_meet
        exact ⟨v, u, hst, hB⟩


    have hk1 : ¬ kind = 1 := fun e => hk15 (.inl e)
    have hk5 : ¬ kind = 5 := fun e => hk15 (.inr e)
    clear hk15
    have t1 : (kind == 1) = false := by simpa using hk1
    have t1' : decide (kind = 1) = false := by simpa using hk1
    have t5 : (kind == 5) = false := by simpa using hk5
    have t5' : decide (kind = 5) = false := by simpa using hk5
    clear hk1 hk5
    by_cases hk2 : kind = 2
    ·subst hk2
     clear hxs
     go_upto_region 25 with fail
     have HC := Lib.hid (show Calls Tryd.prog 40 #[.pointer (some ⟨gm, 0, none⟩), .int .i64 4] wr (NextR gm 4 wr) from HN.out 4 (by omega) (by omega) wr hst.up)
     go_wp2_with fail
     refine HC.out.mono ?_
     rintro e w3 ⟨k, rfl, hk, hb⟩
     replace hst := hst.upd hg hb
     clear HC hb
     obtain ⟨wr, hwr⟩ : ∃ x, w3 = x := ⟨_, rfl⟩
     rw [hwr] at hst ⊢
     clear hwr w3
     go_upto_region 27 with fail
     obtain ⟨w7, hw7⟩ : ∃ x, wr = x := ⟨_, rfl⟩
     rw [hw7] at hst ⊢
     clear hw7 wr
     go_loopw [11] (fun iv wr => ∃ (v : RuV) (u : Rul) (i : Nat), iv = .int .i64 (i : Int) ∧ i ≤ k ∧ RuS gm w wr g r v u ∧ RulB u ∧ u.inn = [xs] ∧ v.on' = i) (fun iv _ => k - (intOf iv).toNat)
     case atStart => exact ⟨v, u, 0, rfl, by omega, hst, hB, HU.out.1, HV.out.2.1⟩
     case round =>
      clear hst hB HU HV hmb hob v u
      obtain ⟨v, u, i, rfl, hi, hst, hB, hu1, hon⟩ := hrel
      have HU := Lib.hid hu1
      have HON := Lib.hid hon
      have hob : v.on' ≤ 4 := by omega
      clear hu1 hon
      by_cases hlt : i < k
      ·have in0 : (i : Int) < (k : Int) := by omega
       have y3 := bx hst.k 3 rfl
       have HO := Lib.hid hst
       have hgl := hst.lt.1
       have hwl := hst.up.size
       have hwg : gm < wr.heap.size := by omega
       have HNX := Lib.hid fun (W : World) (bW : Up gm wr W) => (show Calls Tryd.prog 40 #[.pointer (some ⟨gm, 0, none⟩), .int .i64 (gn : Int)] W (NextR gm gn W) from HN.out gn hn0 (by omega) W (hst.up.trans bW))
       clear hst
       go_upto_region 29 with fail
       have HS := Lib.hid fun (W : World) (bW : Up gm wr W) => (show Held1 W from held1 _)
       have bb := Up.refl gm wr
       refine wp_region_held_drew (S := fun w' => Held1 w') (by kernel_rfl) ?_ (fun hHeld => ?_)
       ·exact HS.out _ (bb.drewN 1)
       replace bb := bb.drewN 1
       change Up _ _ wr.drew at bb
       generalize hw0 : wr.drew = W0 at hHeld bb ⊢
       clear hw0
       refine tkC 0 ?_
       refine tkC 2 ?_
       refine tkC 3 ?_
       refine rd2 1 4 (fun K hK => ?_) (fun K hK => ?_)
       ·have yL : W0.cell? ⟨g, 3, none⟩ = some (.slice v.oA v.on' v.oc) := bb.cell y3 (by show g ≠ gm; omega)
        refine wy ?_
        go_simp
        clear hHeld
        refine hK.out _ _ (held1 _) fun hHeld => ?_
        clear hK K
        clear yL
        refine rd1 4 fun K hK => ?_
        refine wy ?_
        go_simp
        clear hHeld
        go_at_call 40
        (with_reducible refine (HNX.out _ bb).mono ?_)
        rintro e V1 ⟨y, rfl, hy, bn⟩
        go_wp2_with fail
        refine hK.out _ _ (held1 _) fun hHeld => ?_
        clear hK K
        replace bb := bb.trans bn
        clear bn
        refine rd1 5 fun K hK => ?_
        refine wy ?_
        go_simp
        clear hHeld
        refine hK.out _ _ (held1 _) fun hHeld => ?_
        clear hK K
        have bb2 := bb.alloc (by have := bb.size; omega) (.cells #[.int .i64 (y : Int)] 3)
        have hnw := news_new V1 [.int .i64 (y : Int)] 3
        have hst := HO.out.upd hg bb2
        clear bb
        have bb := bb2
        clear bb2
        change 0 < 1 → ∃ b o, _ ∧ ∀ j u, _ → (V1.alloc (.cells #[.int .i64 (y : Int)] 3)).cell? _ = _ at hnw
        obtain ⟨V2, hV⟩ : ∃ wN, V1.alloc (.cells #[.int .i64 (y : Int)] 3) = wN := ⟨_, rfl⟩
        rw [hV] at hnw hst bb hHeld ⊢
        clear hV
        refine rd1 6 fun K hK => ?_
        clear hHeld
        have how := hst.out
        have hs4 : w.heap.size ≤ V2.heap.size := by have := bb.size; omega
        refine appStep elt_int (by kernel_rfl) _ _ rfl V2 (w.heap.size) _ _ _ (ic u.out) _ 1 1 [.int .i64 (y : Int)] (by rfl) (by rfl) how rfl hnw (by simp [Value.oneCell']) (by omega) hs4 ?_
        intro A' c' W4 ho4 hg4 hb4 hat4
        obtain ⟨k4, hp9⟩ := hst.pushOut hg ho4 hg4 hb4 hat4
        have g0 := bx k4 3 rfl
        have z0 := k4.frozen 3
        clear ho4 hg4 hb4 hat4 how hs4 hnw k4 hst
        refine hkG hK (held1 _) fun hHeld => ?_
        clear hK K
        refine tkC 7 ?_
        refine rd1 8 fun K hK => ?_
        refine wy ?_
        go_simp
        clear hHeld
        refine hK.out _ _ (held1 _) fun hHeld => ?_
        clear hK K
        refine wpAnyH_done (by kernel_rfl) ?_ _
        clear hHeld HS g0 z0 bb HO HNX
        go_wp2_with fail
        go_roundw
        case rel => exact ⟨_, _, i + 1, by go_num, by omega, hp9, hB.out _, HU.out, by show v.on' + 1 = i + 1; rw [HON.out]⟩
        case measure => simp [intOf] <;> omega





       ·refine wy ?_
        go_simp
        clear hHeld
        go_at_call 40
        (with_reducible refine (HNX.out _ bb).mono ?_)
        rintro e V1 ⟨y, rfl, hy, bn⟩
        go_wp2_with fail
        refine hK.out _ _ (held1 _) fun hHeld => ?_
        clear hK K
        replace bb := bb.trans bn
        clear bn
        refine rd2 1 5 (fun K hK => ?_) (fun K hK => ?_)
        ·have yL : V1.cell? ⟨g, 3, none⟩ = some (.slice v.oA v.on' v.oc) := bb.cell y3 (by show g ≠ gm; omega)
         refine wy ?_
         go_simp
         clear hHeld
         refine hK.out _ _ (held1 _) fun hHeld => ?_
         clear hK K
         clear yL
         refine rd1 5 fun K hK => ?_
         refine wy ?_
         go_simp
         clear hHeld
         refine hK.out _ _ (held1 _) fun hHeld => ?_
         clear hK K
         have bb2 := bb.alloc (by have := bb.size; omega) (.cells #[.int .i64 (y : Int)] 3)
         have hnw := news_new V1 [.int .i64 (y : Int)] 3
         have hst := HO.out.upd hg bb2
         clear bb
         have bb := bb2
         clear bb2
         change 0 < 1 → ∃ b o, _ ∧ ∀ j u, _ → (V1.alloc (.cells #[.int .i64 (y : Int)] 3)).cell? _ = _ at hnw
         obtain ⟨V2, hV⟩ : ∃ wN, V1.alloc (.cells #[.int .i64 (y : Int)] 3) = wN := ⟨_, rfl⟩
         rw [hV] at hnw hst bb hHeld ⊢
         clear hV
         refine rd1 6 fun K hK => ?_
         clear hHeld
         have how := hst.out
         have hs4 : w.heap.size ≤ V2.heap.size := by have := bb.size; omega
         refine appStep elt_int (by kernel_rfl) _ _ rfl V2 (w.heap.size) _ _ _ (ic u.out) _ 1 1 [.int .i64 (y : Int)] (by rfl) (by rfl) how rfl hnw (by simp [Value.oneCell']) (by omega) hs4 ?_
         intro A' c' W4 ho4 hg4 hb4 hat4
         obtain ⟨k4, hp9⟩ := hst.pushOut hg ho4 hg4 hb4 hat4
         have g0 := bx k4 3 rfl
         have z0 := k4.frozen 3
         clear ho4 hg4 hb4 hat4 how hs4 hnw k4 hst
         refine hkG hK (held1 _) fun hHeld => ?_
         clear hK K
         refine tkC 7 ?_
         refine rd1 8 fun K hK => ?_
         refine wy ?_
         go_simp
         clear hHeld
         refine hK.out _ _ (held1 _) fun hHeld => ?_
         clear hK K
         refine wpAnyH_done (by kernel_rfl) ?_ _
         clear hHeld HS g0 z0 bb HO HNX
         go_wp2_with fail
         go_roundw
         case rel => exact ⟨_, _, i + 1, by go_num, by omega, hp9, hB.out _, HU.out, by show v.on' + 1 = i + 1; rw [HON.out]⟩
         case measure => simp [intOf] <;> omega




        ·refine wy ?_
         go_simp
         clear hHeld
         refine hK.out _ _ (held1 _) fun hHeld => ?_
         clear hK K
         have bb2 := bb.alloc (by have := bb.size; omega) (.cells #[.int .i64 (y : Int)] 3)
         have hnw := news_new V1 [.int .i64 (y : Int)] 3
         have hst := HO.out.upd hg bb2
         clear bb
         have bb := bb2
         clear bb2
         change 0 < 1 → ∃ b o, _ ∧ ∀ j u, _ → (V1.alloc (.cells #[.int .i64 (y : Int)] 3)).cell? _ = _ at hnw
         obtain ⟨V2, hV⟩ : ∃ wN, V1.alloc (.cells #[.int .i64 (y : Int)] 3) = wN := ⟨_, rfl⟩
         rw [hV] at hnw hst bb hHeld ⊢
         clear hV
         refine rd1 1 fun K hK => ?_
         have yL : V2.cell? ⟨g, 3, none⟩ = some (.slice v.oA v.on' v.oc) := bb.cell y3 (by show g ≠ gm; omega)
         refine wy ?_
         go_simp
         clear hHeld
         refine hK.out _ _ (held1 _) fun hHeld => ?_
         clear hK K
         clear yL
         refine rd1 6 fun K hK => ?_
         clear hHeld
         have how := hst.out
         have hs4 : w.heap.size ≤ V2.heap.size := by have := bb.size; omega
         refine appStep elt_int (by kernel_rfl) _ _ rfl V2 (w.heap.size) _ _ _ (ic u.out) _ 1 1 [.int .i64 (y : Int)] (by rfl) (by rfl) how rfl hnw (by simp [Value.oneCell']) (by omega) hs4 ?_
         intro A' c' W4 ho4 hg4 hb4 hat4
         obtain ⟨k4, hp9⟩ := hst.pushOut hg ho4 hg4 hb4 hat4
         have g0 := bx k4 3 rfl
         have z0 := k4.frozen 3
         clear ho4 hg4 hb4 hat4 how hs4 hnw k4 hst
         refine hkG hK (held1 _) fun hHeld => ?_
         clear hK K
         refine tkC 7 ?_
         refine rd1 8 fun K hK => ?_
         refine wy ?_
         go_simp
         clear hHeld
         refine hK.out _ _ (held1 _) fun hHeld => ?_
         clear hK K
         refine wpAnyH_done (by kernel_rfl) ?_ _
         clear hHeld HS g0 z0 bb HO HNX
         go_wp2_with fail
         go_roundw
         case rel => exact ⟨_, _, i + 1, by go_num, by omega, hp9, hB.out _, HU.out, by show v.on' + 1 = i + 1; rw [HON.out]⟩
         case measure => simp [intOf] <;> omega






      ·have in0 : ¬ (i : Int) < (k : Int) := by omega
       clear hlt HU HON
       go_wp2_with fail
       go_meet
       exact ⟨v, u, hst, hB⟩


    have t2 : (kind == 2) = false := by simpa using hk2
    have t2' : decide (kind = 2) = false := by simpa using hk2
    by_cases hk3 : kind = 3
    ·subst hk3
     clear hxs
     have y1 := bx hst.k 1 rfl
     have HO := Lib.hid hst
     have hgl := hst.lt.1
     have hwl := hst.up.size
     have hwg : gm < wr.heap.size := by omega
     have HRX := Lib.hid fun (W : World) (bW : Up gm wr W) => HRW.out W (hst.up.trans bW)
     clear hst
     go_upto_region 31 with fail
     have HS := Lib.hid fun (W : World) (bW : Up gm wr W) => (show Held1 W from held1 _)
     have bb := Up.refl gm wr
     refine wp_region_held_drew (S := fun w' => Held1 w') (by kernel_rfl) ?_ (fun hHeld => ?_)
     ·exact HS.out _ (bb.drewN 1)
     replace bb := bb.drewN 1
     change Up _ _ wr.drew at bb
     generalize hw0 : wr.drew = W0 at hHeld bb ⊢
     clear hw0
     refine tkC 0 ?_
     refine tkC 2 ?_
     refine rd2 1 3 (fun K hK => ?_) (fun K hK => ?_)
     ·have yL : W0.cell? ⟨g, 1, none⟩ = some (.slice v.iA v.im v.ic') := bb.cell y1 (by show g ≠ gm; omega)
      refine wy ?_
      go_simp
      clear hHeld
      refine hK.out _ _ (held1 _) fun hHeld => ?_
      clear hK K
      clear yL
      refine rd1 3 fun K hK => ?_
      refine wy ?_
      go_simp
      clear hHeld
      go_at_call 88
      (with_reducible refine (HRX.out _ bb).mono ?_)
      rintro e V1 ⟨A1, n1, c1, css1, xss1, rfl, hn1', hrg1, hl1, bn⟩
      go_wp2_with fail
      refine hK.out _ _ (held1 _) fun hHeld => ?_
      clear hK K
      have hX : ∀ b ∈ v.X g r, b < wr.heap.size := HO.out.xlt
      obtain ⟨hro, hnl, hn1c, hnw⟩ := row_onto (B := w.heap.size) (X := v.X g r) hrg1 (by have := bb.size; omega) (fun b hb => Nat.lt_of_lt_of_le (hX b hb) bb.size)
      have hyn := (hrg1.len em_rows).1
      have hst := HO.out.upd hg (bb.trans bn)
      obtain ⟨css, hi⟩ := hst.inn
      clear hrg1 hX
      replace bb := bb.trans bn
      clear bn
      refine rd1 4 fun K hK => ?_
      clear hHeld
      have hs4 : w.heap.size ≤ V1.heap.size := by have := bb.size; omega
      refine appStep elt_row (by kernel_rfl) _ _ rfl V1 w.heap.size _ _ _ css.flatten _ n1 c1 css1.flatten (by rfl) (by rfl) hi.ow hnl hnw hn1c (by omega) hs4 ?_
      intro A' c' W4 ho4 hg4 hb4 hat4
      obtain ⟨k4, hp9⟩ := hst.pushIn hg hi (m := n1) (ds := css1) hro ho4 hg4 hb4 hat4
      have g0 := bx k4 1 rfl
      have z0 := k4.frozen 1
      clear ho4 hg4 hb4 hat4 hs4 hnw k4 hst hi hro hnl hn1c
      refine hkG hK (held1 _) fun hHeld => ?_
      clear hK K
      refine tkC 5 ?_
      refine rd1 6 fun K hK => ?_
      refine wy ?_
      go_simp
      clear hHeld
      refine hK.out _ _ (held1 _) fun hHeld => ?_
      clear hK K
      refine wpAnyH_done (by kernel_rfl) ?_ _
      clear hHeld HS g0 z0 bb HO HRX
      have hB2 := hB.inn_app (ys := xss1) (by rw [HU.out.1]; simp; omega) hl1
      obtain ⟨wr2, hwr2⟩ : ∃ x, W4.setCell ⟨g, 1, none⟩ (.slice A' (v.im + n1) c') = x := ⟨_, rfl⟩
      rw [hwr2] at hp9 ⊢
      clear hwr2
      obtain ⟨v2, hv2'⟩ : ∃ x : RuV, ({ v with iA := A', im := v.im + n1, ic' := c' } : RuV) = x ∧ x.on' = 0 ∧ x.ln = 0 ∧ 0 < x.im ∧ x.im ≤ 3 := ⟨_, rfl, HV.out.2.1, HV.out.2.2, by show 0 < v.im + n1; have := HV.out.1; omega, by show v.im + n1 ≤ 3; have := HV.out.1; omega⟩
      obtain ⟨hv2', hv4, hv5, hv6, hv7⟩ := hv2'
      obtain ⟨u2, hu2'⟩ : ∃ x : Rul, ({ u with inn := u.inn ++ xss1 } : Rul) = x := ⟨_, rfl⟩
      rw [hv2', hu2'] at hp9
      rw [hu2'] at hB2
      clear hv2' hu2' HV HU hmb hob hB hl1 hyn
      obtain ⟨wr, hwr⟩ : ∃ x, wr2 = x := ⟨_, rfl⟩
      obtain ⟨v, hv⟩ : ∃ x, v2 = x := ⟨_, rfl⟩
      obtain ⟨u, hu⟩ : ∃ x, u2 = x := ⟨_, rfl⟩
      rw [hwr, hv, hu] at hp9
      rw [hu] at hB2
      rw [hv] at hv4 hv5 hv6 hv7
      rw [hwr]
      have hst := hp9
      have hB := hB2
      have HV := Lib.hid (And.intro hv4 hv5)
      clear hp9 hB2 hwr hv hu hv4 hv5
      go_upto_region 32 with fail
      have HC := Lib.hid (show Calls Tryd.prog 40 #[.pointer (some ⟨gm, 0, none⟩), .int .i64 (gn : Int)] wr (NextR gm gn wr) from HN.out gn hn0 (by omega) wr hst.up)
      go_wp2_with fail
      refine HC.out.mono ?_
      rintro e w3 ⟨y, rfl, hy, hb⟩
      replace hst := hst.upd hg hb
      clear HC hb
      obtain ⟨wr, hwr⟩ : ∃ x, w3 = x := ⟨_, rfl⟩
      rw [hwr] at hst ⊢
      clear hwr w3
      obtain ⟨k4, hst4⟩ := hst.litOut hg (y : Int)
      have y3 := bx k4 3 rfl
      have z3 := k4.frozen 3
      have HST := Lib.hid hst4
      clear k4 hst4 hst
      go_upto_region 33 with fail
      clear y3 z3
      have hst := HST.out
      have hB2 := hB.out [(y : Int)]
      clear HST hB HV hv6 hv7
      obtain ⟨u2, hu⟩ : ∃ x : Rul, ({ u with out := [(y : Int)] } : Rul) = x := ⟨_, rfl⟩
      obtain ⟨v2, hv⟩ : ∃ x : RuV, ({ v with oA := some ⟨wr.heap.size, 0, none⟩, on' := 1, oc := 1 } : RuV) = x := ⟨_, rfl⟩
      obtain ⟨w9, hw9⟩ : ∃ x : World, (wr.alloc (.cells #[.int .i64 (y : Int)] 3)).setCell ⟨g, 3, none⟩ (.slice (some ⟨wr.heap.size, 0, none⟩) 1 1) = x := ⟨_, rfl⟩
      rw [hu, hv, hw9] at hst
      rw [hu] at hB2
      rw [hw9]
      clear hu hv hw9
      obtain ⟨u, hu⟩ : ∃ x, u2 = x := ⟨_, rfl⟩
      obtain ⟨v, hv⟩ : ∃ x, v2 = x := ⟨_, rfl⟩
      obtain ⟨wr, hw9⟩ : ∃ x, w9 = x := ⟨_, rfl⟩
      rw [hu, hv, hw9] at hst
      rw [hu] at hB2
      rw [hw9]
      have hB := hB2
      clear hu hv hw9 hB2
      go_wp2_with fail
      go_meet
      exact ⟨v, u, hst, hB⟩




     ·refine wy ?_
      go_simp
      clear hHeld
      go_at_call 88
      (with_reducible refine (HRX.out _ bb).mono ?_)
      rintro e V1 ⟨A1, n1, c1, css1, xss1, rfl, hn1', hrg1, hl1, bn⟩
      go_wp2_with fail
      refine hK.out _ _ (held1 _) fun hHeld => ?_
      clear hK K
      have hX : ∀ b ∈ v.X g r, b < wr.heap.size := HO.out.xlt
      obtain ⟨hro, hnl, hn1c, hnw⟩ := row_onto (B := w.heap.size) (X := v.X g r) hrg1 (by have := bb.size; omega) (fun b hb => Nat.lt_of_lt_of_le (hX b hb) bb.size)
      have hyn := (hrg1.len em_rows).1
      have hst := HO.out.upd hg (bb.trans bn)
      obtain ⟨css, hi⟩ := hst.inn
      clear hrg1 hX
      replace bb := bb.trans bn
      clear bn
      refine rd1 1 fun K hK => ?_
      have yL : V1.cell? ⟨g, 1, none⟩ = some (.slice v.iA v.im v.ic') := bb.cell y1 (by show g ≠ gm; omega)
      refine wy ?_
      go_simp
      clear hHeld
      refine hK.out _ _ (held1 _) fun hHeld => ?_
      clear hK K
      clear yL
      refine rd1 4 fun K hK => ?_
      clear hHeld
      have hs4 : w.heap.size ≤ V1.heap.size := by have := bb.size; omega
      refine appStep elt_row (by kernel_rfl) _ _ rfl V1 w.heap.size _ _ _ css.flatten _ n1 c1 css1.flatten (by rfl) (by rfl) hi.ow hnl hnw hn1c (by omega) hs4 ?_
      intro A' c' W4 ho4 hg4 hb4 hat4
      obtain ⟨k4, hp9⟩ := hst.pushIn hg hi (m := n1) (ds := css1) hro ho4 hg4 hb4 hat4
      have g0 := bx k4 1 rfl
      have z0 := k4.frozen 1
      clear ho4 hg4 hb4 hat4 hs4 hnw k4 hst hi hro hnl hn1c
      refine hkG hK (held1 _) fun hHeld => ?_
      clear hK K
      refine tkC 5 ?_
      refine rd1 6 fun K hK => ?_
      refine wy ?_
      go_simp
      clear hHeld
      refine hK.out _ _ (held1 _) fun hHeld => ?_
      clear hK K
      refine wpAnyH_done (by kernel_rfl) ?_ _
      clear hHeld HS g0 z0 bb HO HRX
      have hB2 := hB.inn_app (ys := xss1) (by rw [HU.out.1]; simp; omega) hl1
      obtain ⟨wr2, hwr2⟩ : ∃ x, W4.setCell ⟨g, 1, none⟩ (.slice A' (v.im + n1) c') = x := ⟨_, rfl⟩
      rw [hwr2] at hp9 ⊢
      clear hwr2
      obtain ⟨v2, hv2'⟩ : ∃ x : RuV, ({ v with iA := A', im := v.im + n1, ic' := c' } : RuV) = x ∧ x.on' = 0 ∧ x.ln = 0 ∧ 0 < x.im ∧ x.im ≤ 3 := ⟨_, rfl, HV.out.2.1, HV.out.2.2, by show 0 < v.im + n1; have := HV.out.1; omega, by show v.im + n1 ≤ 3; have := HV.out.1; omega⟩
      obtain ⟨hv2', hv4, hv5, hv6, hv7⟩ := hv2'
      obtain ⟨u2, hu2'⟩ : ∃ x : Rul, ({ u with inn := u.inn ++ xss1 } : Rul) = x := ⟨_, rfl⟩
      rw [hv2', hu2'] at hp9
      rw [hu2'] at hB2
      clear hv2' hu2' HV HU hmb hob hB hl1 hyn
      obtain ⟨wr, hwr⟩ : ∃ x, wr2 = x := ⟨_, rfl⟩
      obtain ⟨v, hv⟩ : ∃ x, v2 = x := ⟨_, rfl⟩
      obtain ⟨u, hu⟩ : ∃ x, u2 = x := ⟨_, rfl⟩
      rw [hwr, hv, hu] at hp9
      rw [hu] at hB2
      rw [hv] at hv4 hv5 hv6 hv7
      rw [hwr]
      have hst := hp9
      have hB := hB2
      have HV := Lib.hid (And.intro hv4 hv5)
      clear hp9 hB2 hwr hv hu hv4 hv5
      go_upto_region 32 with fail
      have HC := Lib.hid (show Calls Tryd.prog 40 #[.pointer (some ⟨gm, 0, none⟩), .int .i64 (gn : Int)] wr (NextR gm gn wr) from HN.out gn hn0 (by omega) wr hst.up)
      go_wp2_with fail
      refine HC.out.mono ?_
      rintro e w3 ⟨y, rfl, hy, hb⟩
      replace hst := hst.upd hg hb
      clear HC hb
      obtain ⟨wr, hwr⟩ : ∃ x, w3 = x := ⟨_, rfl⟩
      rw [hwr] at hst ⊢
      clear hwr w3
      obtain ⟨k4, hst4⟩ := hst.litOut hg (y : Int)
      have y3 := bx k4 3 rfl
      have z3 := k4.frozen 3
      have HST := Lib.hid hst4
      clear k4 hst4 hst
      go_upto_region 33 with fail
      clear y3 z3
      have hst := HST.out
      have hB2 := hB.out [(y : Int)]
      clear HST hB HV hv6 hv7
      obtain ⟨u2, hu⟩ : ∃ x : Rul, ({ u with out := [(y : Int)] } : Rul) = x := ⟨_, rfl⟩
      obtain ⟨v2, hv⟩ : ∃ x : RuV, ({ v with oA := some ⟨wr.heap.size, 0, none⟩, on' := 1, oc := 1 } : RuV) = x := ⟨_, rfl⟩
      obtain ⟨w9, hw9⟩ : ∃ x : World, (wr.alloc (.cells #[.int .i64 (y : Int)] 3)).setCell ⟨g, 3, none⟩ (.slice (some ⟨wr.heap.size, 0, none⟩) 1 1) = x := ⟨_, rfl⟩
      rw [hu, hv, hw9] at hst
      rw [hu] at hB2
      rw [hw9]
      clear hu hv hw9
      obtain ⟨u, hu⟩ : ∃ x, u2 = x := ⟨_, rfl⟩
      obtain ⟨v, hv⟩ : ∃ x, v2 = x := ⟨_, rfl⟩
      obtain ⟨wr, hw9⟩ : ∃ x, w9 = x := ⟨_, rfl⟩
      rw [hu, hv, hw9] at hst
      rw [hu] at hB2
      rw [hw9]
      have hB := hB2
      clear hu hv hw9 hB2
      go_wp2_with fail
      go_meet
      exact ⟨v, u, hst, hB⟩





    have t3 : (kind == 3) = false := by simpa using hk3
    have t3' : decide (kind = 3) = false := by simpa using hk3
    clear hxs
    have y1 := bx hst.k 1 rfl
    have HO := Lib.hid hst
    have hgl := hst.lt.1
    have hwl := hst.up.size
    have hwg : gm < wr.heap.size := by omega
    have HRX := Lib.hid fun (W : World) (bW : Up gm wr W) => HRW.out W (hst.up.trans bW)
    clear hst
    go_upto_region 12 with fail
    have HS := Lib.hid fun (W : World) (bW : Up gm wr W) => (show Held1 W from held1 _)
    have bb := Up.refl gm wr
    refine wp_region_held_drew (S := fun w' => Held1 w') (by kernel_rfl) ?_ (fun hHeld => ?_)
    ·exact HS.out _ (bb.drewN 1)
    replace bb := bb.drewN 1
    change Up _ _ wr.drew at bb
    generalize hw0 : wr.drew = W0 at hHeld bb ⊢
    clear hw0
    refine tkC 0 ?_
    refine tkC 2 ?_
    refine rd2 1 3 (fun K hK => ?_) (fun K hK => ?_)
    ·have yL : W0.cell? ⟨g, 1, none⟩ = some (.slice v.iA v.im v.ic') := bb.cell y1 (by show g ≠ gm; omega)
     refine wy ?_
     go_simp
     clear hHeld
     refine hK.out _ _ (held1 _) fun hHeld => ?_
     clear hK K
     clear yL
     refine rd1 3 fun K hK => ?_
     refine wy ?_
     go_simp
     clear hHeld
     go_at_call 88
     (with_reducible refine (HRX.out _ bb).mono ?_)
     rintro e V1 ⟨A1, n1, c1, css1, xss1, rfl, hn1', hrg1, hl1, bn⟩
     go_wp2_with fail
     refine hK.out _ _ (held1 _) fun hHeld => ?_
     clear hK K
     have hX : ∀ b ∈ v.X g r, b < wr.heap.size := HO.out.xlt
     obtain ⟨hro, hnl, hn1c, hnw⟩ := row_onto (B := w.heap.size) (X := v.X g r) hrg1 (by have := bb.size; omega) (fun b hb => Nat.lt_of_lt_of_le (hX b hb) bb.size)
     have hyn := (hrg1.len em_rows).1
     have hst := HO.out.upd hg (bb.trans bn)
     obtain ⟨css, hi⟩ := hst.inn
     clear hrg1 hX
     replace bb := bb.trans bn
     clear bn
     refine rd1 4 fun K hK => ?_
     clear hHeld
     have hs4 : w.heap.size ≤ V1.heap.size := by have := bb.size; omega
     refine appStep elt_row (by kernel_rfl) _ _ rfl V1 w.heap.size _ _ _ css.flatten _ n1 c1 css1.flatten (by rfl) (by rfl) hi.ow hnl hnw hn1c (by omega) hs4 ?_
     intro A' c' W4 ho4 hg4 hb4 hat4
     obtain ⟨k4, hp9⟩ := hst.pushIn hg hi (m := n1) (ds := css1) hro ho4 hg4 hb4 hat4
     have g0 := bx k4 1 rfl
     have z0 := k4.frozen 1
     clear ho4 hg4 hb4 hat4 hs4 hnw k4 hst hi hro hnl hn1c
     refine hkG hK (held1 _) fun hHeld => ?_
     clear hK K
     refine tkC 5 ?_
     refine rd1 6 fun K hK => ?_
     refine wy ?_
     go_simp
     clear hHeld
     refine hK.out _ _ (held1 _) fun hHeld => ?_
     clear hK K
     refine wpAnyH_done (by kernel_rfl) ?_ _
     clear hHeld HS g0 z0 bb HO HRX
     have hB2 := hB.inn_app (ys := xss1) (by rw [HU.out.1]; simp; omega) hl1
     obtain ⟨wr2, hwr2⟩ : ∃ x, W4.setCell ⟨g, 1, none⟩ (.slice A' (v.im + n1) c') = x := ⟨_, rfl⟩
     rw [hwr2] at hp9 ⊢
     clear hwr2
     obtain ⟨v2, hv2'⟩ : ∃ x : RuV, ({ v with iA := A', im := v.im + n1, ic' := c' } : RuV) = x ∧ x.on' = 0 ∧ x.ln = 0 ∧ 0 < x.im ∧ x.im ≤ 3 := ⟨_, rfl, HV.out.2.1, HV.out.2.2, by show 0 < v.im + n1; have := HV.out.1; omega, by show v.im + n1 ≤ 3; have := HV.out.1; omega⟩
     obtain ⟨hv2', hv4, hv5, hv6, hv7⟩ := hv2'
     obtain ⟨u2, hu2'⟩ : ∃ x : Rul, ({ u with inn := u.inn ++ xss1 } : Rul) = x := ⟨_, rfl⟩
     rw [hv2', hu2'] at hp9
     rw [hu2'] at hB2
     clear hv2' hu2' HV HU hmb hob hB hl1 hyn
     obtain ⟨wr, hwr⟩ : ∃ x, wr2 = x := ⟨_, rfl⟩
     obtain ⟨v, hv⟩ : ∃ x, v2 = x := ⟨_, rfl⟩
     obtain ⟨u, hu⟩ : ∃ x, u2 = x := ⟨_, rfl⟩
     rw [hwr, hv, hu] at hp9
     rw [hu] at hB2
     rw [hv] at hv4 hv5 hv6 hv7
     rw [hwr]
     have hst := hp9
     have hB := hB2
     have HV := Lib.hid (And.intro hv4 hv5)
     clear hp9 hB2 hwr hv hu hv4 hv5
     have hv5 := HV.out.2
     have HLN0 := Lib.hid hv5
     clear HV hv5
     go_upto_region 13 with fail
     have HC := Lib.hid (show Calls Tryd.prog 40 #[.pointer (some ⟨gm, 0, none⟩), .int .i64 3] wr (NextR gm 3 wr) from HN.out 3 (by omega) (by omega) wr hst.up)
     go_wp2_with fail
     refine HC.out.mono ?_
     rintro e w3 ⟨k, rfl, hk, hb⟩
     replace hst := hst.upd hg hb
     clear HC hb
     obtain ⟨wr, hwr⟩ : ∃ x, w3 = x := ⟨_, rfl⟩
     rw [hwr] at hst ⊢
     clear hwr w3
     go_upto_region 15 with fail
     obtain ⟨w7, hw7⟩ : ∃ x, wr = x := ⟨_, rfl⟩
     rw [hw7] at hst ⊢
     clear hw7 wr
     go_loopw [13] (fun iv wr => ∃ (v : RuV) (u : Rul) (i : Nat), iv = .int .i64 (i : Int) ∧ i ≤ k ∧ RuS gm w wr g r v u ∧ RulB u ∧ v.ln = i ∧ 0 < v.im ∧ v.im ≤ 3) (fun iv _ => k - (intOf iv).toNat)
     case atStart => exact ⟨v, u, 0, rfl, by omega, hst, hB, HLN0.out, hv6, hv7⟩
     case round =>
      clear hst hB HLN0 hv6 hv7 v u
      obtain ⟨v, u, i, rfl, hi, hst, hB, hln, him, him3⟩ := hrel
      have HLN := Lib.hid hln
      have hlb : v.ln ≤ 3 := by omega
      clear hln
      by_cases hlt : i < k
      ·have in0 : (i : Int) < (k : Int) := by omega
       by_cases hc0 : 0 < cn
       ·have tc : decide (0 < (cn : Int)) = true := by simp; omega
        have tc' : decide (0 < cn) = true := by simpa using hc0
        have y4 := bx hst.k 4 rfl
        have y1 := bx hst.k 1 rfl
        have HO := Lib.hid hst
        have hgl := hst.lt.1
        have hwl := hst.up.size
        have hwg : gm < wr.heap.size := by omega
        have HNI := Lib.hid fun (W : World) (bW : Up gm wr W) => (show Calls Tryd.prog 40 #[.pointer (some ⟨gm, 0, none⟩), .int .i64 (v.im : Int)] W (NextR gm v.im W) from HN.out v.im him (by omega) W (hst.up.trans bW))
        have HNC := Lib.hid fun (W : World) (bW : Up gm wr W) => (show Calls Tryd.prog 40 #[.pointer (some ⟨gm, 0, none⟩), .int .i64 (cn : Int)] W (NextR gm cn W) from HN.out cn hc0 (by omega) W (hst.up.trans bW))
        have HCX := Lib.hid fun (W : World) (bW : Up gm wr W) => HCA.out W (hst.up.trans bW)
        clear hst
        go_upto_region 17 with fail
        have HS := Lib.hid fun (W : World) (bW : Up gm wr W) => (show Held1 W ∧ W.cell? ⟨g, 1, none⟩ = some (.slice v.iA v.im v.ic') from ⟨held1 _, bW.cell y1 (by show g ≠ gm; omega)⟩)
        have bb := Up.refl gm wr
        refine wp_region_held_drew (S := fun w' => Held1 w' ∧ w'.cell? ⟨g, 1, none⟩ = some (.slice v.iA v.im v.ic')) (by kernel_rfl) ?_ (fun hHeld => ?_)
        ·exact HS.out _ (bb.drewN 1)
        replace bb := bb.drewN 1
        change Up _ _ wr.drew at bb
        generalize hw0 : wr.drew = W0 at hHeld bb ⊢
        clear hw0
        refine tkC 0 ?_
        refine tkC 2 ?_
        refine tkC 3 ?_
        refine tkC 4 ?_
        refine tkC 5 ?_
        refine tkC 7 ?_
        refine tkC 8 ?_
        refine tkC 9 ?_
        refine tkC 10 ?_
        refine rd2 1 6 (fun K hK => ?_) (fun K hK => ?_)
        ·have yL : W0.cell? ⟨g, 4, none⟩ = some (.slice v.lA v.ln v.lc) := bb.cell y4 (by show g ≠ gm; omega)
         refine wy ?_
         go_simp
         clear hHeld
         refine hK.out _ _ (HS.out _ bb) fun hHeld => ?_
         clear hK K
         clear yL
         refine rd1 6 fun K hK => ?_
         refine wy ?_
         go_simp
         clear hHeld
         go_at_call 40
         (with_reducible refine (HNI.out _ bb).mono ?_)
         rintro e V1 ⟨x, rfl, hx, bn⟩
         go_wp2_with fail
         refine hK.out _ _ (HS.out _ (bb.trans bn)) fun hHeld => ?_
         clear hK K
         replace bb := bb.trans bn
         clear bn
         refine rd1 11 fun K hK => ?_
         refine wy ?_
         go_simp
         clear hHeld
         go_at_call 40
         (with_reducible refine (HNC.out _ bb).mono ?_)
         rintro e V2 ⟨y, rfl, hy, bn⟩
         go_wp2_with fail
         refine hK.out _ _ (HS.out _ (bb.trans bn)) fun hHeld => ?_
         clear hK K
         have yc0 : (0 : Int) ≤ (y : Int) := by omega
         have yc1 : (y : Int) < (cn : Int) := by omega
         obtain ⟨z, hz⟩ := at_some cxs y (by omega)
         obtain ⟨ba, oa, eCA, hbC, hcc⟩ := (HCX.out _ (bb.trans bn)).pos (show 0 < cn by omega)
         obtain ⟨_, rfl, hcc2⟩ := hcc y z hz
         have yC := hcc2 0 _ rfl
         rw [Nat.mul_one, Nat.add_zero] at yC
         subst eCA
         clear hcc hcc2 hz
         replace bb := bb.trans bn
         clear bn
         refine tkC 12 ?_
         refine rd1 13 fun K hK => ?_
         refine wy ?_
         go_simp
         clear hHeld
         refine hK.out _ _ (HS.out _ bb) fun hHeld => ?_
         clear hK K
         refine tkC 14 ?_
         refine rd1 15 fun K hK => ?_
         refine wy ?_
         go_simp
         clear hHeld
         refine hK.out _ _ (HS.out _ (bb.alloc (by have := bb.size; omega) _)) fun hHeld => ?_
         clear hK K
         have bb2 := bb.alloc (by have := bb.size; omega) (.cells #[.int .i64 (x : Int), .int .i64 z] 213)
         have hnw := news_new V2 [.int .i64 (x : Int), .int .i64 z] 213
         have hst := HO.out.upd hg bb2
         clear bb
         have bb := bb2
         clear bb2
         change 0 < 1 → ∃ b o, _ ∧ ∀ j u, _ → (V2.alloc (.cells #[.int .i64 (x : Int), .int .i64 z] 213)).cell? _ = _ at hnw
         obtain ⟨V3, hV⟩ : ∃ wN, V2.alloc (.cells #[.int .i64 (x : Int), .int .i64 z] 213) = wN := ⟨_, rfl⟩
         rw [hV] at hnw hst bb hHeld ⊢
         clear hV
         obtain ⟨lcs, hl, hlr⟩ := hst.cal
         refine rd1 16 fun K hK => ?_
         clear hHeld
         have how := hl
         have hs4 : w.heap.size ≤ V3.heap.size := by have := bb.size; omega
         refine appStep elt_call (by kernel_rfl) _ _ rfl V3 (w.heap.size) _ _ _ (lcs.flatten) _ 1 1 [.int .i64 (x : Int), .int .i64 z] (by rfl) (by rfl) how rfl hnw (by simp [Value.oneCell']) (by omega) hs4 ?_
         intro A' c' W4 ho4 hg4 hb4 hat4
         have hyE : ECall [.int .i64 (x : Int), .int .i64 z] ((x : Int), z) := ⟨rfl, by show -9223372036854775808 ≤ (x : Int); omega, by show (x : Int) ≤ 9223372036854775807; omega⟩
         obtain ⟨k4, hp9⟩ := hst.pushCall hg hl hlr hyE ho4 hg4 hb4 hat4
         have g0 := bx k4 4 rfl
         have z0 := k4.frozen 4
         have gI := bx k4 1 rfl
         clear ho4 hg4 hb4 hat4 how hs4 hnw k4 hst hl hlr hyE
         refine hkG hK (⟨held1 _, gI⟩) fun hHeld => ?_
         clear hK K
         refine tkC 17 ?_
         refine rd1 18 fun K hK => ?_
         refine wy ?_
         go_simp
         clear hHeld
         refine hK.out _ _ (⟨held1 _, bx hp9.k 1 rfl⟩) fun hHeld => ?_
         clear hK K
         refine wpAnyH_done (by kernel_rfl) ?_ _
         clear hHeld HS g0 z0 gI bb HO HNI HNC HCX
         go_wp2_with fail
         go_roundw
         case rel => exact ⟨_, _, i + 1, by go_num, by omega, hp9, hB.calls _, by show v.ln + 1 = i + 1; rw [HLN.out], him, him3⟩
         case measure => simp [intOf] <;> omega







        ·refine wy ?_
         go_simp
         clear hHeld
         go_at_call 40
         (with_reducible refine (HNI.out _ bb).mono ?_)
         rintro e V1 ⟨x, rfl, hx, bn⟩
         go_wp2_with fail
         refine hK.out _ _ (HS.out _ (bb.trans bn)) fun hHeld => ?_
         clear hK K
         replace bb := bb.trans bn
         clear bn
         refine rd2 1 11 (fun K hK => ?_) (fun K hK => ?_)
         ·have yL : V1.cell? ⟨g, 4, none⟩ = some (.slice v.lA v.ln v.lc) := bb.cell y4 (by show g ≠ gm; omega)
          refine wy ?_
          go_simp
          clear hHeld
          refine hK.out _ _ (HS.out _ bb) fun hHeld => ?_
          clear hK K
          clear yL
          refine rd1 11 fun K hK => ?_
          refine wy ?_
          go_simp
          clear hHeld
          go_at_call 40
          (with_reducible refine (HNC.out _ bb).mono ?_)
          rintro e V2 ⟨y, rfl, hy, bn⟩
          go_wp2_with fail
          refine hK.out _ _ (HS.out _ (bb.trans bn)) fun hHeld => ?_
          clear hK K
          have yc0 : (0 : Int) ≤ (y : Int) := by omega
          have yc1 : (y : Int) < (cn : Int) := by omega
          obtain ⟨z, hz⟩ := at_some cxs y (by omega)
          obtain ⟨ba, oa, eCA, hbC, hcc⟩ := (HCX.out _ (bb.trans bn)).pos (show 0 < cn by omega)
          obtain ⟨_, rfl, hcc2⟩ := hcc y z hz
          have yC := hcc2 0 _ rfl
          rw [Nat.mul_one, Nat.add_zero] at yC
          subst eCA
          clear hcc hcc2 hz
          replace bb := bb.trans bn
          clear bn
          refine tkC 12 ?_
          refine rd1 13 fun K hK => ?_
          refine wy ?_
          go_simp
          clear hHeld
          refine hK.out _ _ (HS.out _ bb) fun hHeld => ?_
          clear hK K
          refine tkC 14 ?_
          refine rd1 15 fun K hK => ?_
          refine wy ?_
          go_simp
          clear hHeld
          refine hK.out _ _ (HS.out _ (bb.alloc (by have := bb.size; omega) _)) fun hHeld => ?_
          clear hK K
          have bb2 := bb.alloc (by have := bb.size; omega) (.cells #[.int .i64 (x : Int), .int .i64 z] 213)
          have hnw := news_new V2 [.int .i64 (x : Int), .int .i64 z] 213
          have hst := HO.out.upd hg bb2
          clear bb
          have bb := bb2
          clear bb2
          change 0 < 1 → ∃ b o, _ ∧ ∀ j u, _ → (V2.alloc (.cells #[.int .i64 (x : Int), .int .i64 z] 213)).cell? _ = _ at hnw
          obtain ⟨V3, hV⟩ : ∃ wN, V2.alloc (.cells #[.int .i64 (x : Int), .int .i64 z] 213) = wN := ⟨_, rfl⟩
          rw [hV] at hnw hst bb hHeld ⊢
          clear hV
          obtain ⟨lcs, hl, hlr⟩ := hst.cal
          refine rd1 16 fun K hK => ?_
          clear hHeld
          have how := hl
          have hs4 : w.heap.size ≤ V3.heap.size := by have := bb.size; omega
          refine appStep elt_call (by kernel_rfl) _ _ rfl V3 (w.heap.size) _ _ _ (lcs.flatten) _ 1 1 [.int .i64 (x : Int), .int .i64 z] (by rfl) (by rfl) how rfl hnw (by simp [Value.oneCell']) (by omega) hs4 ?_
          intro A' c' W4 ho4 hg4 hb4 hat4
          have hyE : ECall [.int .i64 (x : Int), .int .i64 z] ((x : Int), z) := ⟨rfl, by show -9223372036854775808 ≤ (x : Int); omega, by show (x : Int) ≤ 9223372036854775807; omega⟩
          obtain ⟨k4, hp9⟩ := hst.pushCall hg hl hlr hyE ho4 hg4 hb4 hat4
          have g0 := bx k4 4 rfl
          have z0 := k4.frozen 4
          have gI := bx k4 1 rfl
          clear ho4 hg4 hb4 hat4 how hs4 hnw k4 hst hl hlr hyE
          refine hkG hK (⟨held1 _, gI⟩) fun hHeld => ?_
          clear hK K
          refine tkC 17 ?_
          refine rd1 18 fun K hK => ?_
          refine wy ?_
          go_simp
          clear hHeld
          refine hK.out _ _ (⟨held1 _, bx hp9.k 1 rfl⟩) fun hHeld => ?_
          clear hK K
          refine wpAnyH_done (by kernel_rfl) ?_ _
          clear hHeld HS g0 z0 gI bb HO HNI HNC HCX
          go_wp2_with fail
          go_roundw
          case rel => exact ⟨_, _, i + 1, by go_num, by omega, hp9, hB.calls _, by show v.ln + 1 = i + 1; rw [HLN.out], him, him3⟩
          case measure => simp [intOf] <;> omega






         ·refine wy ?_
          go_simp
          clear hHeld
          go_at_call 40
          (with_reducible refine (HNC.out _ bb).mono ?_)
          rintro e V2 ⟨y, rfl, hy, bn⟩
          go_wp2_with fail
          refine hK.out _ _ (HS.out _ (bb.trans bn)) fun hHeld => ?_
          clear hK K
          have yc0 : (0 : Int) ≤ (y : Int) := by omega
          have yc1 : (y : Int) < (cn : Int) := by omega
          obtain ⟨z, hz⟩ := at_some cxs y (by omega)
          obtain ⟨ba, oa, eCA, hbC, hcc⟩ := (HCX.out _ (bb.trans bn)).pos (show 0 < cn by omega)
          obtain ⟨_, rfl, hcc2⟩ := hcc y z hz
          have yC := hcc2 0 _ rfl
          rw [Nat.mul_one, Nat.add_zero] at yC
          subst eCA
          clear hcc hcc2 hz
          replace bb := bb.trans bn
          clear bn
          refine tkC 12 ?_
          refine rd2 1 13 (fun K hK => ?_) (fun K hK => ?_)
          ·have yL : V2.cell? ⟨g, 4, none⟩ = some (.slice v.lA v.ln v.lc) := bb.cell y4 (by show g ≠ gm; omega)
           refine wy ?_
           go_simp
           clear hHeld
           refine hK.out _ _ (HS.out _ bb) fun hHeld => ?_
           clear hK K
           clear yL
           refine rd1 13 fun K hK => ?_
           refine wy ?_
           go_simp
           clear hHeld
           refine hK.out _ _ (HS.out _ bb) fun hHeld => ?_
           clear hK K
           refine tkC 14 ?_
           refine rd1 15 fun K hK => ?_
           refine wy ?_
           go_simp
           clear hHeld
           refine hK.out _ _ (HS.out _ (bb.alloc (by have := bb.size; omega) _)) fun hHeld => ?_
           clear hK K
           have bb2 := bb.alloc (by have := bb.size; omega) (.cells #[.int .i64 (x : Int), .int .i64 z] 213)
           have hnw := news_new V2 [.int .i64 (x : Int), .int .i64 z] 213
           have hst := HO.out.upd hg bb2
           clear bb
           have bb := bb2
           clear bb2
           change 0 < 1 → ∃ b o, _ ∧ ∀ j u, _ → (V2.alloc (.cells #[.int .i64 (x : Int), .int .i64 z] 213)).cell? _ = _ at hnw
           obtain ⟨V3, hV⟩ : ∃ wN, V2.alloc (.cells #[.int .i64 (x : Int), .int .i64 z] 213) = wN := ⟨_, rfl⟩
           rw [hV] at hnw hst bb hHeld ⊢
           clear hV
           obtain ⟨lcs, hl, hlr⟩ := hst.cal
           refine rd1 16 fun K hK => ?_
           clear hHeld
           have how := hl
           have hs4 : w.heap.size ≤ V3.heap.size := by have := bb.size; omega
           refine appStep elt_call (by kernel_rfl) _ _ rfl V3 (w.heap.size) _ _ _ (lcs.flatten) _ 1 1 [.int .i64 (x : Int), .int .i64 z] (by rfl) (by rfl) how rfl hnw (by simp [Value.oneCell']) (by omega) hs4 ?_
           intro A' c' W4 ho4 hg4 hb4 hat4
           have hyE : ECall [.int .i64 (x : Int), .int .i64 z] ((x : Int), z) := ⟨rfl, by show -9223372036854775808 ≤ (x : Int); omega, by show (x : Int) ≤ 9223372036854775807; omega⟩
           obtain ⟨k4, hp9⟩ := hst.pushCall hg hl hlr hyE ho4 hg4 hb4 hat4
           have g0 := bx k4 4 rfl
           have z0 := k4.frozen 4
           have gI := bx k4 1 rfl
           clear ho4 hg4 hb4 hat4 how hs4 hnw k4 hst hl hlr hyE
           refine hkG hK (⟨held1 _, gI⟩) fun hHeld => ?_
           clear hK K
           refine tkC 17 ?_
           refine rd1 18 fun K hK => ?_
           refine wy ?_
           go_simp
           clear hHeld
           refine hK.out _ _ (⟨held1 _, bx hp9.k 1 rfl⟩) fun hHeld => ?_
           clear hK K
           refine wpAnyH_done (by kernel_rfl) ?_ _
           clear hHeld HS g0 z0 gI bb HO HNI HNC HCX
           go_wp2_with fail
           go_roundw
           case rel => exact ⟨_, _, i + 1, by go_num, by omega, hp9, hB.calls _, by show v.ln + 1 = i + 1; rw [HLN.out], him, him3⟩
           case measure => simp [intOf] <;> omega





          ·refine wy ?_
           go_simp
           clear hHeld
           refine hK.out _ _ (HS.out _ bb) fun hHeld => ?_
           clear hK K
           refine tkC 14 ?_
           refine rd2 1 15 (fun K hK => ?_) (fun K hK => ?_)
           ·have yL : V2.cell? ⟨g, 4, none⟩ = some (.slice v.lA v.ln v.lc) := bb.cell y4 (by show g ≠ gm; omega)
            refine wy ?_
            go_simp
            clear hHeld
            refine hK.out _ _ (HS.out _ bb) fun hHeld => ?_
            clear hK K
            clear yL
            refine rd1 15 fun K hK => ?_
            refine wy ?_
            go_simp
            clear hHeld
            refine hK.out _ _ (HS.out _ (bb.alloc (by have := bb.size; omega) _)) fun hHeld => ?_
            clear hK K
            have bb2 := bb.alloc (by have := bb.size; omega) (.cells #[.int .i64 (x : Int), .int .i64 z] 213)
            have hnw := news_new V2 [.int .i64 (x : Int), .int .i64 z] 213
            have hst := HO.out.upd hg bb2
            clear bb
            have bb := bb2
            clear bb2
            change 0 < 1 → ∃ b o, _ ∧ ∀ j u, _ → (V2.alloc (.cells #[.int .i64 (x : Int), .int .i64 z] 213)).cell? _ = _ at hnw
            obtain ⟨V3, hV⟩ : ∃ wN, V2.alloc (.cells #[.int .i64 (x : Int), .int .i64 z] 213) = wN := ⟨_, rfl⟩
            rw [hV] at hnw hst bb hHeld ⊢
            clear hV
            obtain ⟨lcs, hl, hlr⟩ := hst.cal
            refine rd1 16 fun K hK => ?_
            clear hHeld
            have how := hl
            have hs4 : w.heap.size ≤ V3.heap.size := by have := bb.size; omega
            refine appStep elt_call (by kernel_rfl) _ _ rfl V3 (w.heap.size) _ _ _ (lcs.flatten) _ 1 1 [.int .i64 (x : Int), .int .i64 z] (by rfl) (by rfl) how rfl hnw (by simp [Value.oneCell']) (by omega) hs4 ?_
            intro A' c' W4 ho4 hg4 hb4 hat4
            have hyE : ECall [.int .i64 (x : Int), .int .i64 z] ((x : Int), z) := ⟨rfl, by show -9223372036854775808 ≤ (x : Int); omega, by show (x : Int) ≤ 9223372036854775807; omega⟩
            obtain ⟨k4, hp9⟩ := hst.pushCall hg hl hlr hyE ho4 hg4 hb4 hat4
            have g0 := bx k4 4 rfl
            have z0 := k4.frozen 4
            have gI := bx k4 1 rfl
            clear ho4 hg4 hb4 hat4 how hs4 hnw k4 hst hl hlr hyE
            refine hkG hK (⟨held1 _, gI⟩) fun hHeld => ?_
            clear hK K
            refine tkC 17 ?_
            refine rd1 18 fun K hK => ?_
            refine wy ?_
            go_simp
            clear hHeld
            refine hK.out _ _ (⟨held1 _, bx hp9.k 1 rfl⟩) fun hHeld => ?_
            clear hK K
            refine wpAnyH_done (by kernel_rfl) ?_ _
            clear hHeld HS g0 z0 gI bb HO HNI HNC HCX
            go_wp2_with fail
            go_roundw
            case rel => exact ⟨_, _, i + 1, by go_num, by omega, hp9, hB.calls _, by show v.ln + 1 = i + 1; rw [HLN.out], him, him3⟩
            case measure => simp [intOf] <;> omega




           ·refine wy ?_
            go_simp
            clear hHeld
            refine hK.out _ _ (HS.out _ (bb.alloc (by have := bb.size; omega) _)) fun hHeld => ?_
            clear hK K
            have bb2 := bb.alloc (by have := bb.size; omega) (.cells #[.int .i64 (x : Int), .int .i64 z] 213)
            have hnw := news_new V2 [.int .i64 (x : Int), .int .i64 z] 213
            have hst := HO.out.upd hg bb2
            clear bb
            have bb := bb2
            clear bb2
            change 0 < 1 → ∃ b o, _ ∧ ∀ j u, _ → (V2.alloc (.cells #[.int .i64 (x : Int), .int .i64 z] 213)).cell? _ = _ at hnw
            obtain ⟨V3, hV⟩ : ∃ wN, V2.alloc (.cells #[.int .i64 (x : Int), .int .i64 z] 213) = wN := ⟨_, rfl⟩
            rw [hV] at hnw hst bb hHeld ⊢
            clear hV
            obtain ⟨lcs, hl, hlr⟩ := hst.cal
            refine rd1 1 fun K hK => ?_
            have yL : V3.cell? ⟨g, 4, none⟩ = some (.slice v.lA v.ln v.lc) := bb.cell y4 (by show g ≠ gm; omega)
            refine wy ?_
            go_simp
            clear hHeld
            refine hK.out _ _ (HS.out _ bb) fun hHeld => ?_
            clear hK K
            clear yL
            refine rd1 16 fun K hK => ?_
            clear hHeld
            have how := hl
            have hs4 : w.heap.size ≤ V3.heap.size := by have := bb.size; omega
            refine appStep elt_call (by kernel_rfl) _ _ rfl V3 (w.heap.size) _ _ _ (lcs.flatten) _ 1 1 [.int .i64 (x : Int), .int .i64 z] (by rfl) (by rfl) how rfl hnw (by simp [Value.oneCell']) (by omega) hs4 ?_
            intro A' c' W4 ho4 hg4 hb4 hat4
            have hyE : ECall [.int .i64 (x : Int), .int .i64 z] ((x : Int), z) := ⟨rfl, by show -9223372036854775808 ≤ (x : Int); omega, by show (x : Int) ≤ 9223372036854775807; omega⟩
            obtain ⟨k4, hp9⟩ := hst.pushCall hg hl hlr hyE ho4 hg4 hb4 hat4
            have g0 := bx k4 4 rfl
            have z0 := k4.frozen 4
            have gI := bx k4 1 rfl
            clear ho4 hg4 hb4 hat4 how hs4 hnw k4 hst hl hlr hyE
            refine hkG hK (⟨held1 _, gI⟩) fun hHeld => ?_
            clear hK K
            refine tkC 17 ?_
            refine rd1 18 fun K hK => ?_
            refine wy ?_
            go_simp
            clear hHeld
            refine hK.out _ _ (⟨held1 _, bx hp9.k 1 rfl⟩) fun hHeld => ?_
            clear hK K
            refine wpAnyH_done (by kernel_rfl) ?_ _
            clear hHeld HS g0 z0 gI bb HO HNI HNC HCX
            go_wp2_with fail
            go_roundw
            case rel => exact ⟨_, _, i + 1, by go_num, by omega, hp9, hB.calls _, by show v.ln + 1 = i + 1; rw [HLN.out], him, him3⟩
            case measure => simp [intOf] <;> omega








       ·have tc : decide (0 < (cn : Int)) = false := by simp; omega
        have tc' : decide (0 < cn) = false := by simpa using hc0
        go_wp2_with fail
        go_meet
        exact ⟨v, u, hst, hB⟩

      ·have in0 : ¬ (i : Int) < (k : Int) := by omega
       go_wp2_with fail
       go_meet
       exact ⟨v, u, hst, hB⟩




    ·refine wy ?_
     go_simp
     clear hHeld
     go_at_call 88
     (with_reducible refine (HRX.out _ bb).mono ?_)
     rintro e V1 ⟨A1, n1, c1, css1, xss1, rfl, hn1', hrg1, hl1, bn⟩
     go_wp2_with fail
     refine hK.out _ _ (held1 _) fun hHeld => ?_
     clear hK K
     have hX : ∀ b ∈ v.X g r, b < wr.heap.size := HO.out.xlt
     obtain ⟨hro, hnl, hn1c, hnw⟩ := row_onto (B := w.heap.size) (X := v.X g r) hrg1 (by have := bb.size; omega) (fun b hb => Nat.lt_of_lt_of_le (hX b hb) bb.size)
     have hyn := (hrg1.len em_rows).1
     have hst := HO.out.upd hg (bb.trans bn)
     obtain ⟨css, hi⟩ := hst.inn
     clear hrg1 hX
     replace bb := bb.trans bn
     clear bn
     refine rd1 1 fun K hK => ?_
     have yL : V1.cell? ⟨g, 1, none⟩ = some (.slice v.iA v.im v.ic') := bb.cell y1 (by show g ≠ gm; omega)
     refine wy ?_
     go_simp
     clear hHeld
     refine hK.out _ _ (held1 _) fun hHeld => ?_
     clear hK K
     clear yL
     refine rd1 4 fun K hK => ?_
     clear hHeld
     have hs4 : w.heap.size ≤ V1.heap.size := by have := bb.size; omega
     refine appStep elt_row (by kernel_rfl) _ _ rfl V1 w.heap.size _ _ _ css.flatten _ n1 c1 css1.flatten (by rfl) (by rfl) hi.ow hnl hnw hn1c (by omega) hs4 ?_
     intro A' c' W4 ho4 hg4 hb4 hat4
     obtain ⟨k4, hp9⟩ := hst.pushIn hg hi (m := n1) (ds := css1) hro ho4 hg4 hb4 hat4
     have g0 := bx k4 1 rfl
     have z0 := k4.frozen 1
     clear ho4 hg4 hb4 hat4 hs4 hnw k4 hst hi hro hnl hn1c
     refine hkG hK (held1 _) fun hHeld => ?_
     clear hK K
     refine tkC 5 ?_
     refine rd1 6 fun K hK => ?_
     refine wy ?_
     go_simp
     clear hHeld
     refine hK.out _ _ (held1 _) fun hHeld => ?_
     clear hK K
     refine wpAnyH_done (by kernel_rfl) ?_ _
     clear hHeld HS g0 z0 bb HO HRX
     have hB2 := hB.inn_app (ys := xss1) (by rw [HU.out.1]; simp; omega) hl1
     obtain ⟨wr2, hwr2⟩ : ∃ x, W4.setCell ⟨g, 1, none⟩ (.slice A' (v.im + n1) c') = x := ⟨_, rfl⟩
     rw [hwr2] at hp9 ⊢
     clear hwr2
     obtain ⟨v2, hv2'⟩ : ∃ x : RuV, ({ v with iA := A', im := v.im + n1, ic' := c' } : RuV) = x ∧ x.on' = 0 ∧ x.ln = 0 ∧ 0 < x.im ∧ x.im ≤ 3 := ⟨_, rfl, HV.out.2.1, HV.out.2.2, by show 0 < v.im + n1; have := HV.out.1; omega, by show v.im + n1 ≤ 3; have := HV.out.1; omega⟩
     obtain ⟨hv2', hv4, hv5, hv6, hv7⟩ := hv2'
     obtain ⟨u2, hu2'⟩ : ∃ x : Rul, ({ u with inn := u.inn ++ xss1 } : Rul) = x := ⟨_, rfl⟩
     rw [hv2', hu2'] at hp9
     rw [hu2'] at hB2
     clear hv2' hu2' HV HU hmb hob hB hl1 hyn
     obtain ⟨wr, hwr⟩ : ∃ x, wr2 = x := ⟨_, rfl⟩
     obtain ⟨v, hv⟩ : ∃ x, v2 = x := ⟨_, rfl⟩
     obtain ⟨u, hu⟩ : ∃ x, u2 = x := ⟨_, rfl⟩
     rw [hwr, hv, hu] at hp9
     rw [hu] at hB2
     rw [hv] at hv4 hv5 hv6 hv7
     rw [hwr]
     have hst := hp9
     have hB := hB2
     have HV := Lib.hid (And.intro hv4 hv5)
     clear hp9 hB2 hwr hv hu hv4 hv5
     have hv5 := HV.out.2
     have HLN0 := Lib.hid hv5
     clear HV hv5
     go_upto_region 13 with fail
     have HC := Lib.hid (show Calls Tryd.prog 40 #[.pointer (some ⟨gm, 0, none⟩), .int .i64 3] wr (NextR gm 3 wr) from HN.out 3 (by omega) (by omega) wr hst.up)
     go_wp2_with fail
     refine HC.out.mono ?_
     rintro e w3 ⟨k, rfl, hk, hb⟩
     replace hst := hst.upd hg hb
     clear HC hb
     obtain ⟨wr, hwr⟩ : ∃ x, w3 = x := ⟨_, rfl⟩
     rw [hwr] at hst ⊢
     clear hwr w3
     go_upto_region 15 with fail
     obtain ⟨w7, hw7⟩ : ∃ x, wr = x := ⟨_, rfl⟩
     rw [hw7] at hst ⊢
     clear hw7 wr
     go_loopw [13] (fun iv wr => ∃ (v : RuV) (u : Rul) (i : Nat), iv = .int .i64 (i : Int) ∧ i ≤ k ∧ RuS gm w wr g r v u ∧ RulB u ∧ v.ln = i ∧ 0 < v.im ∧ v.im ≤ 3) (fun iv _ => k - (intOf iv).toNat)
     case atStart => exact ⟨v, u, 0, rfl, by omega, hst, hB, HLN0.out, hv6, hv7⟩
     case round =>
      clear hst hB HLN0 hv6 hv7 v u
      obtain ⟨v, u, i, rfl, hi, hst, hB, hln, him, him3⟩ := hrel
      have HLN := Lib.hid hln
      have hlb : v.ln ≤ 3 := by omega
      clear hln
      by_cases hlt : i < k
      ·have in0 : (i : Int) < (k : Int) := by omega
       by_cases hc0 : 0 < cn
       ·have tc : decide (0 < (cn : Int)) = true := by simp; omega
        have tc' : decide (0 < cn) = true := by simpa using hc0
        have y4 := bx hst.k 4 rfl
        have y1 := bx hst.k 1 rfl
        have HO := Lib.hid hst
        have hgl := hst.lt.1
        have hwl := hst.up.size
        have hwg : gm < wr.heap.size := by omega
        have HNI := Lib.hid fun (W : World) (bW : Up gm wr W) => (show Calls Tryd.prog 40 #[.pointer (some ⟨gm, 0, none⟩), .int .i64 (v.im : Int)] W (NextR gm v.im W) from HN.out v.im him (by omega) W (hst.up.trans bW))
        have HNC := Lib.hid fun (W : World) (bW : Up gm wr W) => (show Calls Tryd.prog 40 #[.pointer (some ⟨gm, 0, none⟩), .int .i64 (cn : Int)] W (NextR gm cn W) from HN.out cn hc0 (by omega) W (hst.up.trans bW))
        have HCX := Lib.hid fun (W : World) (bW : Up gm wr W) => HCA.out W (hst.up.trans bW)
        clear hst
        go_upto_region 17 with fail
        have HS := Lib.hid fun (W : World) (bW : Up gm wr W) => (show Held1 W ∧ W.cell? ⟨g, 1, none⟩ = some (.slice v.iA v.im v.ic') from ⟨held1 _, bW.cell y1 (by show g ≠ gm; omega)⟩)
        have bb := Up.refl gm wr
        refine wp_region_held_drew (S := fun w' => Held1 w' ∧ w'.cell? ⟨g, 1, none⟩ = some (.slice v.iA v.im v.ic')) (by kernel_rfl) ?_ (fun hHeld => ?_)
        ·exact HS.out _ (bb.drewN 1)
        replace bb := bb.drewN 1
        change Up _ _ wr.drew at bb
        generalize hw0 : wr.drew = W0 at hHeld bb ⊢
        clear hw0
        refine tkC 0 ?_
        refine tkC 2 ?_
        refine tkC 3 ?_
        refine tkC 4 ?_
        refine tkC 5 ?_
        refine tkC 7 ?_
        refine tkC 8 ?_
        refine tkC 9 ?_
        refine tkC 10 ?_
        refine rd2 1 6 (fun K hK => ?_) (fun K hK => ?_)
        ·have yL : W0.cell? ⟨g, 4, none⟩ = some (.slice v.lA v.ln v.lc) := bb.cell y4 (by show g ≠ gm; omega)
         refine wy ?_
         go_simp
         clear hHeld
         refine hK.out _ _ (HS.out _ bb) fun hHeld => ?_
         clear hK K
         clear yL
         refine rd1 6 fun K hK => ?_
         refine wy ?_
         go_simp
         clear hHeld
         go_at_call 40
         (with_reducible refine (HNI.out _ bb).mono ?_)
         rintro e V1 ⟨x, rfl, hx, bn⟩
         go_wp2_with fail
         refine hK.out _ _ (HS.out _ (bb.trans bn)) fun hHeld => ?_
         clear hK K
         replace bb := bb.trans bn
         clear bn
         refine rd1 11 fun K hK => ?_
         refine wy ?_
         go_simp
         clear hHeld
         go_at_call 40
         (with_reducible refine (HNC.out _ bb).mono ?_)
         rintro e V2 ⟨y, rfl, hy, bn⟩
         go_wp2_with fail
         refine hK.out _ _ (HS.out _ (bb.trans bn)) fun hHeld => ?_
         clear hK K
         have yc0 : (0 : Int) ≤ (y : Int) := by omega
         have yc1 : (y : Int) < (cn : Int) := by omega
         obtain ⟨z, hz⟩ := at_some cxs y (by omega)
         obtain ⟨ba, oa, eCA, hbC, hcc⟩ := (HCX.out _ (bb.trans bn)).pos (show 0 < cn by omega)
         obtain ⟨_, rfl, hcc2⟩ := hcc y z hz
         have yC := hcc2 0 _ rfl
         rw [Nat.mul_one, Nat.add_zero] at yC
         subst eCA
         clear hcc hcc2 hz
         replace bb := bb.trans bn
         clear bn
         refine tkC 12 ?_
         refine rd1 13 fun K hK => ?_
         refine wy ?_
         go_simp
         clear hHeld
         refine hK.out _ _ (HS.out _ bb) fun hHeld => ?_
         clear hK K
         refine tkC 14 ?_
         refine rd1 15 fun K hK => ?_
         refine wy ?_
         go_simp
         clear hHeld
         refine hK.out _ _ (HS.out _ (bb.alloc (by have := bb.size; omega) _)) fun hHeld => ?_
         clear hK K
         have bb2 := bb.alloc (by have := bb.size; omega) (.cells #[.int .i64 (x : Int), .int .i64 z] 213)
         have hnw := news_new V2 [.int .i64 (x : Int), .int .i64 z] 213
         have hst := HO.out.upd hg bb2
         clear bb
         have bb := bb2
         clear bb2
         change 0 < 1 → ∃ b o, _ ∧ ∀ j u, _ → (V2.alloc (.cells #[.int .i64 (x : Int), .int .i64 z] 213)).cell? _ = _ at hnw
         obtain ⟨V3, hV⟩ : ∃ wN, V2.alloc (.cells #[.int .i64 (x : Int), .int .i64 z] 213) = wN := ⟨_, rfl⟩
         rw [hV] at hnw hst bb hHeld ⊢
         clear hV
         obtain ⟨lcs, hl, hlr⟩ := hst.cal
         refine rd1 16 fun K hK => ?_
         clear hHeld
         have how := hl
         have hs4 : w.heap.size ≤ V3.heap.size := by have := bb.size; omega
         refine appStep elt_call (by kernel_rfl) _ _ rfl V3 (w.heap.size) _ _ _ (lcs.flatten) _ 1 1 [.int .i64 (x : Int), .int .i64 z] (by rfl) (by rfl) how rfl hnw (by simp [Value.oneCell']) (by omega) hs4 ?_
         intro A' c' W4 ho4 hg4 hb4 hat4
         have hyE : ECall [.int .i64 (x : Int), .int .i64 z] ((x : Int), z) := ⟨rfl, by show -9223372036854775808 ≤ (x : Int); omega, by show (x : Int) ≤ 9223372036854775807; omega⟩
         obtain ⟨k4, hp9⟩ := hst.pushCall hg hl hlr hyE ho4 hg4 hb4 hat4
         have g0 := bx k4 4 rfl
         have z0 := k4.frozen 4
         have gI := bx k4 1 rfl
         clear ho4 hg4 hb4 hat4 how hs4 hnw k4 hst hl hlr hyE
         refine hkG hK (⟨held1 _, gI⟩) fun hHeld => ?_
         clear hK K
         refine tkC 17 ?_
         refine rd1 18 fun K hK => ?_
         refine wy ?_
         go_simp
         clear hHeld
         refine hK.out _ _ (⟨held1 _, bx hp9.k 1 rfl⟩) fun hHeld => ?_
         clear hK K
         refine wpAnyH_done (by kernel_rfl) ?_ _
         clear hHeld HS g0 z0 gI bb HO HNI HNC HCX
         go_wp2_with fail
         go_roundw
         case rel => exact ⟨_, _, i + 1, by go_num, by omega, hp9, hB.calls _, by show v.ln + 1 = i + 1; rw [HLN.out], him, him3⟩
         case measure => simp [intOf] <;> omega







        ·refine wy ?_
         go_simp
         clear hHeld
         go_at_call 40
         (with_reducible refine (HNI.out _ bb).mono ?_)
         rintro e V1 ⟨x, rfl, hx, bn⟩
         go_wp2_with fail
         refine hK.out _ _ (HS.out _ (bb.trans bn)) fun hHeld => ?_
         clear hK K
         replace bb := bb.trans bn
         clear bn
         refine rd2 1 11 (fun K hK => ?_) (fun K hK => ?_)
         ·have yL : V1.cell? ⟨g, 4, none⟩ = some (.slice v.lA v.ln v.lc) := bb.cell y4 (by show g ≠ gm; omega)
          refine wy ?_
          go_simp
          clear hHeld
          refine hK.out _ _ (HS.out _ bb) fun hHeld => ?_
          clear hK K
          clear yL
          refine rd1 11 fun K hK => ?_
          refine wy ?_
          go_simp
          clear hHeld
          go_at_call 40
          (with_reducible refine (HNC.out _ bb).mono ?_)
          rintro e V2 ⟨y, rfl, hy, bn⟩
          go_wp2_with fail
          refine hK.out _ _ (HS.out _ (bb.trans bn)) fun hHeld => ?_
          clear hK K
          have yc0 : (0 : Int) ≤ (y : Int) := by omega
          have yc1 : (y : Int) < (cn : Int) := by omega
          obtain ⟨z, hz⟩ := at_some cxs y (by omega)
          obtain ⟨ba, oa, eCA, hbC, hcc⟩ := (HCX.out _ (bb.trans bn)).pos (show 0 < cn by omega)
          obtain ⟨_, rfl, hcc2⟩ := hcc y z hz
          have yC := hcc2 0 _ rfl
          rw [Nat.mul_one, Nat.add_zero] at yC
          subst eCA
          clear hcc hcc2 hz
          replace bb := bb.trans bn
          clear bn
          refine tkC 12 ?_
          refine rd1 13 fun K hK => ?_
          refine wy ?_
          go_simp
          clear hHeld
          refine hK.out _ _ (HS.out _ bb) fun hHeld => ?_
          clear hK K
          refine tkC 14 ?_
          refine rd1 15 fun K hK => ?_
          refine wy ?_
          go_simp
          clear hHeld
          refine hK.out _ _ (HS.out _ (bb.alloc (by have := bb.size; omega) _)) fun hHeld => ?_
          clear hK K
          have bb2 := bb.alloc (by have := bb.size; omega) (.cells #[.int .i64 (x : Int), .int .i64 z] 213)
          have hnw := news_new V2 [.int .i64 (x : Int), .int .i64 z] 213
          have hst := HO.out.upd hg bb2
          clear bb
          have bb := bb2
          clear bb2
          change 0 < 1 → ∃ b o, _ ∧ ∀ j u, _ → (V2.alloc (.cells #[.int .i64 (x : Int), .int .i64 z] 213)).cell? _ = _ at hnw
          obtain ⟨V3, hV⟩ : ∃ wN, V2.alloc (.cells #[.int .i64 (x : Int), .int .i64 z] 213) = wN := ⟨_, rfl⟩
          rw [hV] at hnw hst bb hHeld ⊢
          clear hV
          obtain ⟨lcs, hl, hlr⟩ := hst.cal
          refine rd1 16 fun K hK => ?_
          clear hHeld
          have how := hl
          have hs4 : w.heap.size ≤ V3.heap.size := by have := bb.size; omega
          refine appStep elt_call (by kernel_rfl) _ _ rfl V3 (w.heap.size) _ _ _ (lcs.flatten) _ 1 1 [.int .i64 (x : Int), .int .i64 z] (by rfl) (by rfl) how rfl hnw (by simp [Value.oneCell']) (by omega) hs4 ?_
          intro A' c' W4 ho4 hg4 hb4 hat4
          have hyE : ECall [.int .i64 (x : Int), .int .i64 z] ((x : Int), z) := ⟨rfl, by show -9223372036854775808 ≤ (x : Int); omega, by show (x : Int) ≤ 9223372036854775807; omega⟩
          obtain ⟨k4, hp9⟩ := hst.pushCall hg hl hlr hyE ho4 hg4 hb4 hat4
          have g0 := bx k4 4 rfl
          have z0 := k4.frozen 4
          have gI := bx k4 1 rfl
          clear ho4 hg4 hb4 hat4 how hs4 hnw k4 hst hl hlr hyE
          refine hkG hK (⟨held1 _, gI⟩) fun hHeld => ?_
          clear hK K
          refine tkC 17 ?_
          refine rd1 18 fun K hK => ?_
          refine wy ?_
          go_simp
          clear hHeld
          refine hK.out _ _ (⟨held1 _, bx hp9.k 1 rfl⟩) fun hHeld => ?_
          clear hK K
          refine wpAnyH_done (by kernel_rfl) ?_ _
          clear hHeld HS g0 z0 gI bb HO HNI HNC HCX
          go_wp2_with fail
          go_roundw
          case rel => exact ⟨_, _, i + 1, by go_num, by omega, hp9, hB.calls _, by show v.ln + 1 = i + 1; rw [HLN.out], him, him3⟩
          case measure => simp [intOf] <;> omega






         ·refine wy ?_
          go_simp
          clear hHeld
          go_at_call 40
          (with_reducible refine (HNC.out _ bb).mono ?_)
          rintro e V2 ⟨y, rfl, hy, bn⟩
          go_wp2_with fail
          refine hK.out _ _ (HS.out _ (bb.trans bn)) fun hHeld => ?_
          clear hK K
          have yc0 : (0 : Int) ≤ (y : Int) := by omega
          have yc1 : (y : Int) < (cn : Int) := by omega
          obtain ⟨z, hz⟩ := at_some cxs y (by omega)
          obtain ⟨ba, oa, eCA, hbC, hcc⟩ := (HCX.out _ (bb.trans bn)).pos (show 0 < cn by omega)
          obtain ⟨_, rfl, hcc2⟩ := hcc y z hz
          have yC := hcc2 0 _ rfl
          rw [Nat.mul_one, Nat.add_zero] at yC
          subst eCA
          clear hcc hcc2 hz
          replace bb := bb.trans bn
          clear bn
          refine tkC 12 ?_
          refine rd2 1 13 (fun K hK => ?_) (fun K hK => ?_)
          ·have yL : V2.cell? ⟨g, 4, none⟩ = some (.slice v.lA v.ln v.lc) := bb.cell y4 (by show g ≠ gm; omega)
           refine wy ?_
           go_simp
           clear hHeld
           refine hK.out _ _ (HS.out _ bb) fun hHeld => ?_
           clear hK K
           clear yL
           refine rd1 13 fun K hK => ?_
           refine wy ?_
           go_simp
           clear hHeld
           refine hK.out _ _ (HS.out _ bb) fun hHeld => ?_
           clear hK K
           refine tkC 14 ?_
           refine rd1 15 fun K hK => ?_
           refine wy ?_
           go_simp
           clear hHeld
           refine hK.out _ _ (HS.out _ (bb.alloc (by have := bb.size; omega) _)) fun hHeld => ?_
           clear hK K
           have bb2 := bb.alloc (by have := bb.size; omega) (.cells #[.int .i64 (x : Int), .int .i64 z] 213)
           have hnw := news_new V2 [.int .i64 (x : Int), .int .i64 z] 213
           have hst := HO.out.upd hg bb2
           clear bb
           have bb := bb2
           clear bb2
           change 0 < 1 → ∃ b o, _ ∧ ∀ j u, _ → (V2.alloc (.cells #[.int .i64 (x : Int), .int .i64 z] 213)).cell? _ = _ at hnw
           obtain ⟨V3, hV⟩ : ∃ wN, V2.alloc (.cells #[.int .i64 (x : Int), .int .i64 z] 213) = wN := ⟨_, rfl⟩
           rw [hV] at hnw hst bb hHeld ⊢
           clear hV
           obtain ⟨lcs, hl, hlr⟩ := hst.cal
           refine rd1 16 fun K hK => ?_
           clear hHeld
           have how := hl
           have hs4 : w.heap.size ≤ V3.heap.size := by have := bb.size; omega
           refine appStep elt_call (by kernel_rfl) _ _ rfl V3 (w.heap.size) _ _ _ (lcs.flatten) _ 1 1 [.int .i64 (x : Int), .int .i64 z] (by rfl) (by rfl) how rfl hnw (by simp [Value.oneCell']) (by omega) hs4 ?_
           intro A' c' W4 ho4 hg4 hb4 hat4
           have hyE : ECall [.int .i64 (x : Int), .int .i64 z] ((x : Int), z) := ⟨rfl, by show -9223372036854775808 ≤ (x : Int); omega, by show (x : Int) ≤ 9223372036854775807; omega⟩
           obtain ⟨k4, hp9⟩ := hst.pushCall hg hl hlr hyE ho4 hg4 hb4 hat4
           have g0 := bx k4 4 rfl
           have z0 := k4.frozen 4
           have gI := bx k4 1 rfl
           clear ho4 hg4 hb4 hat4 how hs4 hnw k4 hst hl hlr hyE
           refine hkG hK (⟨held1 _, gI⟩) fun hHeld => ?_
           clear hK K
           refine tkC 17 ?_
           refine rd1 18 fun K hK => ?_
           refine wy ?_
           go_simp
           clear hHeld
           refine hK.out _ _ (⟨held1 _, bx hp9.k 1 rfl⟩) fun hHeld => ?_
           clear hK K
           refine wpAnyH_done (by kernel_rfl) ?_ _
           clear hHeld HS g0 z0 gI bb HO HNI HNC HCX
           go_wp2_with fail
           go_roundw
           case rel => exact ⟨_, _, i + 1, by go_num, by omega, hp9, hB.calls _, by show v.ln + 1 = i + 1; rw [HLN.out], him, him3⟩
           case measure => simp [intOf] <;> omega





          ·refine wy ?_
           go_simp
           clear hHeld
           refine hK.out _ _ (HS.out _ bb) fun hHeld => ?_
           clear hK K
           refine tkC 14 ?_
           refine rd2 1 15 (fun K hK => ?_) (fun K hK => ?_)
           ·have yL : V2.cell? ⟨g, 4, none⟩ = some (.slice v.lA v.ln v.lc) := bb.cell y4 (by show g ≠ gm; omega)
            refine wy ?_
            go_simp
            clear hHeld
            refine hK.out _ _ (HS.out _ bb) fun hHeld => ?_
            clear hK K
            clear yL
            refine rd1 15 fun K hK => ?_
            refine wy ?_
            go_simp
            clear hHeld
            refine hK.out _ _ (HS.out _ (bb.alloc (by have := bb.size; omega) _)) fun hHeld => ?_
            clear hK K
            have bb2 := bb.alloc (by have := bb.size; omega) (.cells #[.int .i64 (x : Int), .int .i64 z] 213)
            have hnw := news_new V2 [.int .i64 (x : Int), .int .i64 z] 213
            have hst := HO.out.upd hg bb2
            clear bb
            have bb := bb2
            clear bb2
            change 0 < 1 → ∃ b o, _ ∧ ∀ j u, _ → (V2.alloc (.cells #[.int .i64 (x : Int), .int .i64 z] 213)).cell? _ = _ at hnw
            obtain ⟨V3, hV⟩ : ∃ wN, V2.alloc (.cells #[.int .i64 (x : Int), .int .i64 z] 213) = wN := ⟨_, rfl⟩
            rw [hV] at hnw hst bb hHeld ⊢
            clear hV
            obtain ⟨lcs, hl, hlr⟩ := hst.cal
            refine rd1 16 fun K hK => ?_
            clear hHeld
            have how := hl
            have hs4 : w.heap.size ≤ V3.heap.size := by have := bb.size; omega
            refine appStep elt_call (by kernel_rfl) _ _ rfl V3 (w.heap.size) _ _ _ (lcs.flatten) _ 1 1 [.int .i64 (x : Int), .int .i64 z] (by rfl) (by rfl) how rfl hnw (by simp [Value.oneCell']) (by omega) hs4 ?_
            intro A' c' W4 ho4 hg4 hb4 hat4
            have hyE : ECall [.int .i64 (x : Int), .int .i64 z] ((x : Int), z) := ⟨rfl, by show -9223372036854775808 ≤ (x : Int); omega, by show (x : Int) ≤ 9223372036854775807; omega⟩
            obtain ⟨k4, hp9⟩ := hst.pushCall hg hl hlr hyE ho4 hg4 hb4 hat4
            have g0 := bx k4 4 rfl
            have z0 := k4.frozen 4
            have gI := bx k4 1 rfl
            clear ho4 hg4 hb4 hat4 how hs4 hnw k4 hst hl hlr hyE
            refine hkG hK (⟨held1 _, gI⟩) fun hHeld => ?_
            clear hK K
            refine tkC 17 ?_
            refine rd1 18 fun K hK => ?_
            refine wy ?_
            go_simp
            clear hHeld
            refine hK.out _ _ (⟨held1 _, bx hp9.k 1 rfl⟩) fun hHeld => ?_
            clear hK K
            refine wpAnyH_done (by kernel_rfl) ?_ _
            clear hHeld HS g0 z0 gI bb HO HNI HNC HCX
            go_wp2_with fail
            go_roundw
            case rel => exact ⟨_, _, i + 1, by go_num, by omega, hp9, hB.calls _, by show v.ln + 1 = i + 1; rw [HLN.out], him, him3⟩
            case measure => simp [intOf] <;> omega




           ·refine wy ?_
            go_simp
            clear hHeld
            refine hK.out _ _ (HS.out _ (bb.alloc (by have := bb.size; omega) _)) fun hHeld => ?_
            clear hK K
            have bb2 := bb.alloc (by have := bb.size; omega) (.cells #[.int .i64 (x : Int), .int .i64 z] 213)
            have hnw := news_new V2 [.int .i64 (x : Int), .int .i64 z] 213
            have hst := HO.out.upd hg bb2
            clear bb
            have bb := bb2
            clear bb2
            change 0 < 1 → ∃ b o, _ ∧ ∀ j u, _ → (V2.alloc (.cells #[.int .i64 (x : Int), .int .i64 z] 213)).cell? _ = _ at hnw
            obtain ⟨V3, hV⟩ : ∃ wN, V2.alloc (.cells #[.int .i64 (x : Int), .int .i64 z] 213) = wN := ⟨_, rfl⟩
            rw [hV] at hnw hst bb hHeld ⊢
            clear hV
            obtain ⟨lcs, hl, hlr⟩ := hst.cal
            refine rd1 1 fun K hK => ?_
            have yL : V3.cell? ⟨g, 4, none⟩ = some (.slice v.lA v.ln v.lc) := bb.cell y4 (by show g ≠ gm; omega)
            refine wy ?_
            go_simp
            clear hHeld
            refine hK.out _ _ (HS.out _ bb) fun hHeld => ?_
            clear hK K
            clear yL
            refine rd1 16 fun K hK => ?_
            clear hHeld
            have how := hl
            have hs4 : w.heap.size ≤ V3.heap.size := by have := bb.size; omega
            refine appStep elt_call (by kernel_rfl) _ _ rfl V3 (w.heap.size) _ _ _ (lcs.flatten) _ 1 1 [.int .i64 (x : Int), .int .i64 z] (by rfl) (by rfl) how rfl hnw (by simp [Value.oneCell']) (by omega) hs4 ?_
            intro A' c' W4 ho4 hg4 hb4 hat4
            have hyE : ECall [.int .i64 (x : Int), .int .i64 z] ((x : Int), z) := ⟨rfl, by show -9223372036854775808 ≤ (x : Int); omega, by show (x : Int) ≤ 9223372036854775807; omega⟩
            obtain ⟨k4, hp9⟩ := hst.pushCall hg hl hlr hyE ho4 hg4 hb4 hat4
            have g0 := bx k4 4 rfl
            have z0 := k4.frozen 4
            have gI := bx k4 1 rfl
            clear ho4 hg4 hb4 hat4 how hs4 hnw k4 hst hl hlr hyE
            refine hkG hK (⟨held1 _, gI⟩) fun hHeld => ?_
            clear hK K
            refine tkC 17 ?_
            refine rd1 18 fun K hK => ?_
            refine wy ?_
            go_simp
            clear hHeld
            refine hK.out _ _ (⟨held1 _, bx hp9.k 1 rfl⟩) fun hHeld => ?_
            clear hK K
            refine wpAnyH_done (by kernel_rfl) ?_ _
            clear hHeld HS g0 z0 gI bb HO HNI HNC HCX
            go_wp2_with fail
            go_roundw
            case rel => exact ⟨_, _, i + 1, by go_num, by omega, hp9, hB.calls _, by show v.ln + 1 = i + 1; rw [HLN.out], him, him3⟩
            case measure => simp [intOf] <;> omega








       ·have tc : decide (0 < (cn : Int)) = false := by simp; omega
        have tc' : decide (0 < cn) = false := by simpa using hc0
        go_wp2_with fail
        go_meet
        exact ⟨v, u, hst, hB⟩

      ·have in0 : ¬ (i : Int) < (k : Int) := by omega
       go_wp2_with fail
       go_meet
       exact ⟨v, u, hst, hB⟩
   case rest =>
    clear hst hB HU HV hmb hob v u
    obtain ⟨v, u, hst, hB⟩ := hcut
    generalize hwcr : wc = wr at *
    clear hwcr wc
    have y0 := bx hst.k 0 rfl
    have y1 := bx hst.k 1 rfl
    have y2 := bx hst.k 2 rfl
    have y3 := bx hst.k 3 rfl
    have y4 := bx hst.k 4 rfl
    have y5 := bx hst.k 5 rfl
    have r0 := bx hst.kr 0 rfl
    have f0 := hst.kr.frozen 0
    have r1 := bx hst.kr 1 rfl
    have f1 := hst.kr.frozen 1
    have r2 := bx hst.kr 2 rfl
    have f2 := hst.kr.frozen 2
    have r3 := bx hst.kr 3 rfl
    have f3 := hst.kr.frozen 3
    have r4 := bx hst.kr 4 rfl
    have f4 := hst.kr.frozen 4
    have r5 := bx hst.kr 5 rfl
    have f5 := hst.kr.frozen 5
    have k5 := store6_bk hst.kr (.slice v.bA v.bn v.bc) (.slice v.iA v.im v.ic') (.slice v.aA v.an v.ac) (.slice v.oA v.on' v.oc) (.slice v.lA v.ln v.lc) (.int .i64 u.x)
    have hu5 := hst.up.set6 hst.lt.2.1 hg (.slice v.bA v.bn v.bc) (.slice v.iA v.im v.ic') (.slice v.aA v.an v.ac) (.slice v.oA v.on' v.oc) (.slice v.lA v.ln v.lc) (.int .i64 u.x)
    obtain ⟨hk5, hs5⟩ := store6_far wr r (.slice v.bA v.bn v.bc) (.slice v.iA v.im v.ic') (.slice v.aA v.an v.ac) (.slice v.oA v.on' v.oc) (.slice v.lA v.ln v.lc) (.int .i64 u.x)
    have hdn := hst.done (store6 wr r (.slice v.bA v.bn v.bc) (.slice v.iA v.im v.ic') (.slice v.aA v.an v.ac) (.slice v.oA v.on' v.oc) (.slice v.lA v.ln v.lc) (.int .i64 u.x)) hk5 hs5
    unfold RuV.cells at hdn
    unfold store6 at k5 hu5 hdn
    have HF := Lib.hid (And.intro k5 (And.intro hdn hu5))
    clear hk5 hs5 k5 hdn hu5 hst
    go_upto_region 33 with fail
    go_cut [] (fun wx => Bk wx r 58 #[.slice v.bA v.bn v.bc, .slice v.iA v.im v.ic', .slice v.aA v.an v.ac, .slice v.oA v.on' v.oc, .slice v.lA v.ln v.lc, .int .i64 u.x] ∧ ERul wx (fun b => w.heap.size ≤ b ∧ b < wx.heap.size) [.slice v.bA v.bn v.bc, .slice v.iA v.im v.ic', .slice v.aA v.an v.ac, .slice v.oA v.on' v.oc, .slice v.lA v.ln v.lc, .int .i64 u.x] u ∧ Up gm w wx)
    case first =>
     go_wp2_with fail
     go_meet
     exact HF.out
    case rest =>
     clear HF
     obtain ⟨k5, hdn, hu5⟩ := hcut
     have q0 := bx k5 0 rfl
     have q1 := bx k5 1 rfl
     have q2 := bx k5 2 rfl
     have q3 := bx k5 3 rfl
     have q4 := bx k5 4 rfl
     have q5 := bx k5 5 rfl
     clear k5
     go_wp2_with (exact bodyPost_ret (v := .agg #[.slice v.bA v.bn v.bc, .slice v.iA v.im v.ic', .slice v.aA v.an v.ac, .slice v.oA v.on' v.oc, .slice v.lA v.ln v.lc, .int .i64 u.x]) (by simp [results, Tryd.results71, go_sem, q0, q1, q2, q3, q4, q5]) rfl ⟨_, u, rfl, hdn, hB, hu5⟩)




end Go.Proofs.YtgcmedkaadagmaaDoor
