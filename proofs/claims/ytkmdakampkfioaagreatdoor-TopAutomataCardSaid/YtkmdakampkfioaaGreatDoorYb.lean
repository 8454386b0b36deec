/- Words: a glyph in the making, in a maker. -/
import Derived.Test.YtkmdakampkfioaaGreatDoorY4
namespace Go.Proofs.YtkmdakampkfioaaGreatDoor
open Go.RowKit Go.Shelf
theorem elt_part : ElT 55 116 3 24 (.agg #[.int .i64 0, .int .i64 0, .int .i64 0]) := ⟨Tryz.underlying55, by kernel_rfl, rfl, by decide, by decide⟩
theorem elt_anch : ElT 56 120 4 32 (.agg #[.int .i64 0, .int .i64 0, .int .i64 0, .int .i64 0]) := ⟨Tryz.underlying56, by kernel_rfl, rfl, by decide, by decide⟩
theorem elt_delta : ElT 57 122 4 32 (.agg #[.int .i64 0, .int .i64 0, .int .i64 0, .int .i64 0]) := ⟨Tryz.underlying57, by kernel_rfl, rfl, by decide, by decide⟩
theorem elt_glyb : ElT 26 60 9 176 (.agg #[.string ⟨#[]⟩, .int .i64 0, .bool false, .slice none 0 0, .slice none 0 0, .slice none 0 0, .slice none 0 0, .slice none 0 0, .slice none 0 0]) := ⟨Tryz.underlying26, by kernel_rfl, rfl, by decide, by decide⟩
theorem Mk.put {w : World} {gm : Nat} {s s' : MSt} {i : Nat} {y : Value} (h : Mk w gm s) (hi : ∀ a l, (s.cells a l).setIfInBounds i y = s'.cells a l) (hs : s'.sA = s.sA ∧ s'.sn = s.sn ∧ s'.xs = s.xs ∧ s'.sc = s.sc) : Mk (w.setCell ⟨gm, i, none⟩ y) gm s' := by
 obtain ⟨a, l, h0, h1, h2, h3⟩ := h;obtain ⟨e1, e2, e3, e4⟩ := hs;refine ⟨a, l, by rw [e2]; exact h0, ?_, ?_, by rw [e2, e4]; exact h3⟩
 ·have := h1.set_ i y;rw [hi] at this;exact this
 ·rw [e1, e2, e3];exact h2.mono (fun _ h => h) (fun x hx => Below.heap_setCell _ ⟨gm, i, none⟩ _ x (Nat.ne_of_lt hx))
abbrev MSt.gl (s : MSt) (A : Option Addr) (n c : Nat) : MSt := { s with f := { s.f with ga := A, gn := n, gc := c } }
theorem grown_gmc {w W : World} {gm i : Nat} (h : w.grownBy W (some gm)) (u : Value) : w.grownBy (W.setCell ⟨gm, i, none⟩ u) (some gm) :=
 ⟨h.os, h.tape, h.output, by rw [World.size_setCell]; exact h.size, fun k hk hne => (Below.heap_setCell _ ⟨gm, i, none⟩ _ k (fun e => hne (by rw [e]))).trans (h.block k hk hne)⟩
theorem grown_thr {w W W4 : World} {gm B : Nat} (h : w.grownBy W (some gm)) (hb : Below B W W4) (hB : w.heap.size ≤ B) : w.grownBy W4 (some gm) :=
 ⟨hb.os.trans h.os, hb.tape.trans h.tape, hb.output.trans h.output, Nat.le_trans h.size hb.size, fun k hk hne => (hb.block k (by omega)).trans (h.block k hk hne)⟩
def store9g (W : World) (g : Nat) (a b c d e p q r s : Value) : World := ((((((((W.setCell ⟨g, 0, none⟩ a).setCell ⟨g, 1, none⟩ b).setCell ⟨g, 2, none⟩ c).setCell ⟨g, 3, none⟩ d).setCell ⟨g, 4, none⟩ e).setCell ⟨g, 5, none⟩ p).setCell ⟨g, 6, none⟩ q).setCell ⟨g, 7, none⟩ r).setCell ⟨g, 8, none⟩ s
theorem store9g_bk {W : World} {g t : Nat} {a0 b0 c0 d0 e0 p0 q0 r0 s0 : Value} (h : Bk W g t #[a0, b0, c0, d0, e0, p0, q0, r0, s0]) (a b c d e p q r s : Value) : Bk (store9g W g a b c d e p q r s) g t #[a, b, c, d, e, p, q, r, s] := by
 have h0 : Bk (W.setCell ⟨g, 0, none⟩ a) g t #[a, b0, c0, d0, e0, p0, q0, r0, s0] := h.set_ 0 a;have h1 : Bk _ g t #[a, b, c0, d0, e0, p0, q0, r0, s0] := h0.set_ 1 b;have h2 : Bk _ g t #[a, b, c, d0, e0, p0, q0, r0, s0] := h1.set_ 2 c;have h3 : Bk _ g t #[a, b, c, d, e0, p0, q0, r0, s0] := h2.set_ 3 d;have h4 : Bk _ g t #[a, b, c, d, e, p0, q0, r0, s0] := h3.set_ 4 e;have h5 : Bk _ g t #[a, b, c, d, e, p, q0, r0, s0] := h4.set_ 5 p;have h6 : Bk _ g t #[a, b, c, d, e, p, q, r0, s0] := h5.set_ 6 q;have h7 : Bk _ g t #[a, b, c, d, e, p, q, r, s0] := h6.set_ 7 r;exact h7.set_ 8 s
theorem Up.set9 {gm : Nat} {a w : World} (h : Up gm a w) {g : Nat} (hp : a.heap.size ≤ g) (hg : gm < a.heap.size) (x0 x1 x2 x3 x4 x5 x6 x7 x8 : Value) : Up gm a (store9g w g x0 x1 x2 x3 x4 x5 x6 x7 x8) :=
 ((((((((h.set (p := ⟨g, 0, none⟩) hp hg x0).set (p := ⟨g, 1, none⟩) hp hg x1).set (p := ⟨g, 2, none⟩) hp hg x2).set (p := ⟨g, 3, none⟩) hp hg x3).set (p := ⟨g, 4, none⟩) hp hg x4).set (p := ⟨g, 5, none⟩) hp hg x5).set (p := ⟨g, 6, none⟩) hp hg x6).set (p := ⟨g, 7, none⟩) hp hg x7).set (p := ⟨g, 8, none⟩) hp hg x8
structure GlV where
 nm : ByteArray
 adv : Int
 mrk : Bool
 pA : Option Addr
 pn : Nat
 pc : Nat
 eA : Option Addr
 en : Nat
 ec : Nat
 tA : Option Addr
 tn : Nat
 tc : Nat
 aA : Option Addr
 an : Nat
 ac : Nat
 dA : Option Addr
 dn : Nat
 dc : Nat
 hA : Option Addr
 hn : Nat
 hc : Nat
abbrev GlV.list (v : GlV) : List Value := [.string v.nm, .int .i64 v.adv, .bool v.mrk, .slice v.pA v.pn v.pc, .slice v.eA v.en v.ec, .slice v.tA v.tn v.tc, .slice v.aA v.an v.ac, .slice v.dA v.dn v.dc, .slice v.hA v.hn v.hc]
abbrev GlV.cells (v : GlV) : Array Value := #[.string v.nm, .int .i64 v.adv, .bool v.mrk, .slice v.pA v.pn v.pc, .slice v.eA v.en v.ec, .slice v.tA v.tn v.tc, .slice v.aA v.an v.ac, .slice v.dA v.dn v.dc, .slice v.hA v.hn v.hc]
def EGlb (w : World) (S : Nat → Prop) (cs : List Value) (g : Gly) : Prop := ∃ v : GlV, cs = v.list ∧ v.mrk = g.mark ∧ RdA w S v.aA v.an g.anc ∧ Hd v.an v.ac
theorem EGlb.gly {w : World} {S : Nat → Prop} {cs : List Value} {g : Gly} (h : EGlb w S cs g) : EGly w S cs g := by
 obtain ⟨v, rfl, e, h1, h2⟩ := h;exact ⟨_, _, _, _, _, v.aA, v.an, v.ac, _, _, by rw [← e], h1, h2⟩
theorem em_gly : EM 9 EGlb := ⟨fun ⟨v, e, h0, h1, h2⟩ hS hk => ⟨v, e, h0, h1.mono hS hk, h2⟩, fun ⟨_, e, _⟩ => by rw [e]; rfl, fun ⟨_, e, _⟩ u hu => by
 rw [e] at hu; simp at hu; rcases hu with rfl | rfl | rfl | rfl | rfl | rfl | rfl | rfl | rfl <;> rfl, by omega⟩
def AncR (cells : List Value) : Prop := ∃ (css : List (List Value)) (ys : List Anc), cells = css.flatten ∧ RowOf 4 (fun cs a => EAnc cs a) css ys
theorem AncR.nil : AncR [] := ⟨[], [], rfl, RowOf.nil⟩
theorem AncR.app {cells cs : List Value} (h : AncR cells) (he : ∃ a, EAnc cs a) : AncR (cells ++ cs) := by
 obtain ⟨css, ys, rfl, hr⟩ := h;obtain ⟨a, ha⟩ := he;exact ⟨css ++ [cs], ys ++ [a], by simp, hr.app (RowOf.one ha (by rw [ha]; rfl))⟩
structure GlS (gm : Nat) (w W : World) (gb : Nat) (v : GlV) : Prop where
 k : Bk W gb 60 v.cells
 u : Up gm w W
 lt : w.heap.size ≤ gb
 par : ∃ cs, Ow 116 3 W w.heap.size v.tA v.tn v.tc cs
 anc : ∃ cs, Ow 120 4 W w.heap.size v.aA v.an v.ac cs ∧ AncR cs
 del : ∃ cs, Ow 122 4 W w.heap.size v.dA v.dn v.dc cs
section
variable {gm : Nat} {w W W2 W4 : World} {gb : Nat} {v : GlV} {A' : Option Addr} {c' : Nat} {cs cells : List Value}
theorem GlS.up (h : GlS gm w W gb v) (hg : gm < w.heap.size) (hu : Up gm W W2) : GlS gm w W2 gb v := by
 obtain ⟨p, hp⟩ := h.par;obtain ⟨a, ha, hr⟩ := h.anc;obtain ⟨d, hd⟩ := h.del;have := h.lt;exact ⟨hu.bk h.k (by omega), h.u.trans hu, h.lt, ⟨p, hu.ow hp hg⟩, ⟨a, hu.ow ha hg, hr⟩, ⟨d, hu.ow hd hg⟩⟩
theorem GlS.set (h : GlS gm w W gb v) (hg : gm < w.heap.size) {i : Nat} {y : Value} {v' : GlV} (hc : v.cells.setIfInBounds i y = v'.cells) (ht : v'.tA = v.tA ∧ v'.tn = v.tn ∧ v'.tc = v.tc) (ha : v'.aA = v.aA ∧ v'.an = v.an ∧ v'.ac = v.ac) (hd : v'.dA = v.dA ∧ v'.dn = v.dn ∧ v'.dc = v.dc) : GlS gm w (W.setCell ⟨gb, i, none⟩ y) gb v' := by
 obtain ⟨p, hp⟩ := h.par;obtain ⟨a, ha2, hr⟩ := h.anc;obtain ⟨d, hd2⟩ := h.del;have hk := h.k.set_ i y;rw [hc] at hk;refine ⟨hk, h.u.set h.lt hg _, h.lt, ⟨p, ?_⟩, ⟨a, ?_, hr⟩, ⟨d, ?_⟩⟩
 ·rw [ht.1, ht.2.1, ht.2.2]; exact hp.setOther (p := ⟨gb, i, none⟩) (fun b e1 e2 => h.k.ne_own (by decide) hp (by rw [e1]; exact congrArg some e2.symm)) _
 ·rw [ha.1, ha.2.1, ha.2.2]; exact ha2.setOther (p := ⟨gb, i, none⟩) (fun b e1 e2 => h.k.ne_own (by decide) ha2 (by rw [e1]; exact congrArg some e2.symm)) _
 ·rw [hd.1, hd.2.1, hd.2.2]; exact hd2.setOther (p := ⟨gb, i, none⟩) (fun b e1 e2 => h.k.ne_own (by decide) hd2 (by rw [e1]; exact congrArg some e2.symm)) _
theorem GlS.far (h : GlS gm w W gb v) (hg : gm < w.heap.size) {gd i : Nat} {y : Value} {ds : Array Value} (kd : Bk W gd 122 ds) (h1 : w.heap.size ≤ gd) (h2 : gd ≠ gb) (h3 : ∀ b, v.dA.map (·.block) = some b → b ≠ gd) : GlS gm w (W.setCell ⟨gd, i, none⟩ y) gb v := by
 obtain ⟨p, hp⟩ := h.par;obtain ⟨a, ha, hr⟩ := h.anc;obtain ⟨d, hd⟩ := h.del;exact ⟨h.k.far (p := ⟨gd, i, none⟩) (fun e => h2 e.symm) _, h.u.set h1 hg _, h.lt, ⟨p, hp.setOther (p := ⟨gd, i, none⟩) (fun b e1 e2 => kd.ne_own (by decide) hp (by rw [e1]; exact congrArg some e2.symm)) _⟩, ⟨a, ha.setOther (p := ⟨gd, i, none⟩) (fun b e1 e2 => kd.ne_own (by decide) ha (by rw [e1]; exact congrArg some e2.symm)) _, hr⟩, ⟨d, hd.setOther (p := ⟨gd, i, none⟩) (fun b e1 e2 => h3 b (by rw [e1]; rfl) e2) _⟩⟩
theorem GlS.pushPart (h : GlS gm w W gb v) (hg : gm < w.heap.size) (ho : Ow 116 3 W4 w.heap.size A' (v.tn + 1) c' cs) (hgr : W.grownBy W4 (v.tA.map (·.block))) (hb : Below w.heap.size W W4) :
  Bk W4 gb 60 v.cells ∧ GlS gm w (W4.setCell ⟨gb, 5, none⟩ (.slice A' (v.tn + 1) c')) gb { v with tA := A', tn := v.tn + 1, tc := c' } := by
 obtain ⟨p, hp⟩ := h.par;obtain ⟨a, ha, hr⟩ := h.anc;obtain ⟨d, hd⟩ := h.del;have k4 := h.k.grown hgr (h.k.ne_own (by decide) hp);have ha4 := ha.grown hgr (fun b e1 e2 => ow_ne ha hp (by decide) b e1 e2);have hd4 := hd.grown hgr (fun b e1 e2 => ow_ne hd hp (by decide) b e1 e2);refine ⟨k4, k4.set_ 5 _, (h.u.thru hb (Nat.le_refl _) hg).set h.lt hg _, h.lt, ⟨_, ho.setOther (p := ⟨gb, 5, none⟩) (fun b e1 e2 => k4.ne_own (by decide) ho (by rw [e1]; exact congrArg some e2.symm)) _⟩, ⟨a, ha4.setOther (p := ⟨gb, 5, none⟩) (fun b e1 e2 => k4.ne_own (by decide) ha4 (by rw [e1]; exact congrArg some e2.symm)) _, hr⟩, ⟨d, hd4.setOther (p := ⟨gb, 5, none⟩) (fun b e1 e2 => k4.ne_own (by decide) hd4 (by rw [e1]; exact congrArg some e2.symm)) _⟩⟩
theorem GlS.pushAnc (h : GlS gm w W gb v) (hg : gm < w.heap.size) (ha : Ow 120 4 W w.heap.size v.aA v.an v.ac cells) (hr : AncR cells) (he : ∃ a, EAnc cs a) (ho : Ow 120 4 W4 w.heap.size A' (v.an + 1) c' (cells ++ cs)) (hgr : W.grownBy W4 (v.aA.map (·.block))) (hb : Below w.heap.size W W4) :
  Bk W4 gb 60 v.cells ∧ GlS gm w (W4.setCell ⟨gb, 6, none⟩ (.slice A' (v.an + 1) c')) gb { v with aA := A', an := v.an + 1, ac := c' } := by
 obtain ⟨p, hp⟩ := h.par;obtain ⟨d, hd⟩ := h.del;have k4 := h.k.grown hgr (h.k.ne_own (by decide) ha);have hp4 := hp.grown hgr (fun b e1 e2 => ow_ne hp ha (by decide) b e1 e2);have hd4 := hd.grown hgr (fun b e1 e2 => ow_ne hd ha (by decide) b e1 e2);refine ⟨k4, k4.set_ 6 _, (h.u.thru hb (Nat.le_refl _) hg).set h.lt hg _, h.lt, ⟨p, hp4.setOther (p := ⟨gb, 6, none⟩) (fun b e1 e2 => k4.ne_own (by decide) hp4 (by rw [e1]; exact congrArg some e2.symm)) _⟩, ⟨_, ho.setOther (p := ⟨gb, 6, none⟩) (fun b e1 e2 => k4.ne_own (by decide) ho (by rw [e1]; exact congrArg some e2.symm)) _, hr.app he⟩, ⟨d, hd4.setOther (p := ⟨gb, 6, none⟩) (fun b e1 e2 => k4.ne_own (by decide) hd4 (by rw [e1]; exact congrArg some e2.symm)) _⟩⟩
theorem GlS.pushDel (h : GlS gm w W gb v) (hg : gm < w.heap.size) (hd : Ow 122 4 W w.heap.size v.dA v.dn v.dc cells) (ho : Ow 122 4 W4 w.heap.size A' (v.dn + 1) c' cs) (hgr : W.grownBy W4 (v.dA.map (·.block))) (hb : Below w.heap.size W W4) :
  Bk W4 gb 60 v.cells ∧ GlS gm w (W4.setCell ⟨gb, 7, none⟩ (.slice A' (v.dn + 1) c')) gb { v with dA := A', dn := v.dn + 1, dc := c' } := by
 obtain ⟨p, hp⟩ := h.par;obtain ⟨a, ha, hr⟩ := h.anc;have k4 := h.k.grown hgr (h.k.ne_own (by decide) hd);have hp4 := hp.grown hgr (fun b e1 e2 => ow_ne hp hd (by decide) b e1 e2);have ha4 := ha.grown hgr (fun b e1 e2 => ow_ne ha hd (by decide) b e1 e2);refine ⟨k4, k4.set_ 7 _, (h.u.thru hb (Nat.le_refl _) hg).set h.lt hg _, h.lt, ⟨p, hp4.setOther (p := ⟨gb, 7, none⟩) (fun b e1 e2 => k4.ne_own (by decide) hp4 (by rw [e1]; exact congrArg some e2.symm)) _⟩, ⟨a, ha4.setOther (p := ⟨gb, 7, none⟩) (fun b e1 e2 => k4.ne_own (by decide) ha4 (by rw [e1]; exact congrArg some e2.symm)) _, hr⟩, ⟨_, ho.setOther (p := ⟨gb, 7, none⟩) (fun b e1 e2 => k4.ne_own (by decide) ho (by rw [e1]; exact congrArg some e2.symm)) _⟩⟩
theorem GlS.read (h : GlS gm w W gb v) {B : Nat} {X : List Nat} (hB : B ≤ w.heap.size) (hX : ∀ b ∈ X, b < w.heap.size) : ∃ g, EGlb W (Fz B W X) v.list g := by
 obtain ⟨cs, ha, css, ys, rfl, hr⟩ := h.anc;have h1 := ha.row hr (by omega);refine ⟨⟨v.mrk, ys⟩, v, rfl, rfl, ⟨h1.1, fun hn => ?_⟩, ha.cap⟩;obtain ⟨b, o, e1, _, hc⟩ := h1.2 hn;obtain ⟨h2, h3, _⟩ := ha.blk b (by rw [e1]; rfl);exact ⟨b, o, e1, ⟨by omega, h3, fun h4 => by have := hX b h4; omega⟩, hc⟩
theorem Rg.upg {B : Nat} {A : Option Addr} {n c : Nat} {css : List (List Value)} {gs : List Gly} {X : List Nat} (h : Rg 60 9 EGlb w B X A n c css gs) (hu : Up gm w W) (hg : gm < B) : Rg 60 9 EGlb W B X A n c css gs := h.up em_gly hu hg
end
theorem gly_fin {gm : Nat} {w0 w V W4 : World} {s : MSt} {gb : Nat} {v : GlV} {A' : Option Addr} {c' : Nat} {css : List (List Value)} {gs : List Gly} (h : GlS gm w V gb v) (hg : gm < w0.heap.size) (hm : Mk V gm s) (hw : w0.grownBy w (some gm)) (hrow : Rg 60 9 EGlb V w0.heap.size (bl s.f.ga) s.f.ga s.f.gn s.f.gc css gs) (hX : ∀ b ∈ bl s.f.ga, b < w.heap.size)
  (ho : Ow 60 9 W4 w0.heap.size A' (s.f.gn + 1) c' (css.flatten ++ v.list)) (hgr : V.grownBy W4 (s.f.ga.map (·.block))) (hb : Below w0.heap.size V W4) (hat : A'.map (·.block) = s.f.ga.map (·.block) ∨ A'.map (·.block) = some V.heap.size) :
  Mk W4 gm s ∧ ∃ (css' : List (List Value)) (gs' : List Gly), Mk (W4.setCell ⟨gm, 3, none⟩ (.slice A' (s.f.gn + 1) c')) gm (s.gl A' (s.f.gn + 1) c') ∧ Rg 60 9 EGlb (W4.setCell ⟨gm, 3, none⟩ (.slice A' (s.f.gn + 1) c')) w0.heap.size (bl A') A' (s.f.gn + 1) c' css' gs' ∧ w0.grownBy (W4.setCell ⟨gm, 3, none⟩ (.slice A' (s.f.gn + 1) c')) (some gm) := by
 have hws := hw.size;obtain ⟨g, hE⟩ := h.read (B := w0.heap.size) (X := bl s.f.ga) hws hX;have e0 : bl s.f.ga = bl s.f.ga ++ [] := by simp
 rw [e0] at hrow hE;have hr := hrow.push1 em_gly hE ho hgr hat;rw [List.append_nil] at hr;have hm4 : Mk W4 gm s := hm.keep fun b hbb => hb.block b (by omega);refine ⟨hm4, css ++ [v.list], gs ++ [g], hm4.put (fun a l => rfl) ⟨rfl, rfl, rfl, rfl⟩, hr.set em_gly (p := ⟨gm, 3, none⟩) (.inr hg) (fun e => ?_) _, grown_gmc (grown_thr (⟨h.u.gr.os.trans hw.os, h.u.gr.tape.trans hw.tape, h.u.gr.output.trans hw.output, Nat.le_trans hw.size h.u.gr.size, fun k hk hne => (h.u.gr.block k (by omega) hne).trans (hw.block k hk hne)⟩ : w0.grownBy V (some gm)) hb (Nat.le_refl _)) _⟩;obtain ⟨h1, _⟩ := ho.blk gm e;omega
theorem elt_axis : ElT 30 77 4 40 (.agg #[.string ⟨#[]⟩, .int .i64 0, .int .i64 0, .int .i64 0]) := ⟨Tryz.underlying30, by kernel_rfl, rfl, by decide, by decide⟩
theorem elt_tent : ElT 78 82 3 24 (.agg #[.int .i64 0, .int .i64 0, .int .i64 0]) := ⟨Tryz.underlying78, by kernel_rfl, rfl, by decide, by decide⟩
theorem elt_region : ElT 31 80 1 24 (.agg #[.slice none 0 0]) := ⟨Tryz.underlying31, by kernel_rfl, rfl, by decide, by decide⟩
theorem elt_insl : ElT 32 58 1 24 (.slice none 0 0) := ⟨Tryz.underlying32, by kernel_rfl, rfl, by decide, by decide⟩
theorem elt_char : ElT 27 64 2 16 (.agg #[.int .i64 0, .int .i64 0]) := ⟨Tryz.underlying27, by kernel_rfl, rfl, by decide, by decide⟩
theorem elt_feat : ElT 29 88 2 40 (.agg #[.string ⟨#[]⟩, .slice none 0 0]) := ⟨Tryz.underlying29, by kernel_rfl, rfl, by decide, by decide⟩
abbrev mz (sA : Option Addr) (sn sc : Nat) (xs : List Int) (u : Int) : MSt := ⟨sA, sn, sc, xs, ⟨u, none, 0, 0, none, 0, 0, none, 0, 0, none, 0, 0, none, 0, 0, none, 0, 0, none, 0, 0, none, 0, 0⟩⟩
abbrev MSt.ax (s : MSt) (A : Option Addr) (n c : Nat) : MSt := { s with f := { s.f with a5 := A, n5 := n, c5 := c } }
abbrev MSt.rg (s : MSt) (A : Option Addr) (n c : Nat) : MSt := { s with f := { s.f with a6 := A, n6 := n, c6 := c } }
abbrev MSt.fn (s : MSt) (A : Option Addr) (n c : Nat) : MSt := { s with f := { s.f with a7 := A, n7 := n, c7 := c } }
abbrev MSt.cv (s : MSt) (A : Option Addr) (n c : Nat) : MSt := { s with f := { s.f with a8 := A, n8 := n, c8 := c } }
abbrev MSt.ch (s : MSt) (A : Option Addr) (n c : Nat) : MSt := { s with f := { s.f with ca := A, cn := n, cc := c } }
abbrev MSt.ft (s : MSt) (A : Option Addr) (n c : Nat) : MSt := { s with f := { s.f with a4 := A, n4 := n, c4 := c } }
structure FldS (e k gm : Nat) (w1 W : World) (s : MSt) (A : Option Addr) (n c : Nat) : Prop where
 hm : Mk W gm s
 gr : w1.grownBy W (some gm)
 row : ∃ cs, Ow e k W w1.heap.size A n c cs
section
variable {e k gm : Nat} {w1 W W2 W4 : World} {s s' : MSt} {A A' : Option Addr} {n c c' : Nat} {cs : List Value}
theorem FldS.up (h : FldS e k gm w1 W s A n c) (hg : gm < w1.heap.size) (hu : Up gm W W2) : FldS e k gm w1 W2 s A n c := by
 obtain ⟨cs, ho⟩ := h.row;exact ⟨hu.st s h.hm, h.gr.trans hu.gr, cs, hu.ow ho hg⟩
theorem FldS.new (h : Mk W gm s) : FldS e k gm W W s none 0 0 := ⟨h, World.grownBy.refl _ _, [], Ow.nil _ _ _ _⟩
theorem FldS.push (h : FldS e k gm w1 W s A n c) (hg : gm < w1.heap.size) {i m : Nat} (ho : Ow e k W4 w1.heap.size A' m c' cs) (hb : Below w1.heap.size W W4) (hi : ∀ a l, (s.cells a l).setIfInBounds i (.slice A' m c') = s'.cells a l) (hs : s'.sA = s.sA ∧ s'.sn = s.sn ∧ s'.xs = s.xs ∧ s'.sc = s.sc) :
  Mk W4 gm s ∧ FldS e k gm w1 (W4.setCell ⟨gm, i, none⟩ (.slice A' m c')) s' A' m c' := by
 have hm4 : Mk W4 gm s := h.hm.keep fun b hbb => hb.block b (by omega);exact ⟨hm4, hm4.put hi hs, grown_gmc (grown_thr h.gr hb (Nat.le_refl _)) _, _, ho.setOther (p := ⟨gm, i, none⟩) (fun b e1 => by have := (ho.lt b 0 none e1).1; show b ≠ gm; omega) _⟩
end
structure RgS (gm : Nat) (w1 W : World) (s : MSt) (A : Option Addr) (n c r : Nat) (tA : Option Addr) (tn tc : Nat) : Prop where
 f : FldS 80 1 gm w1 W s A n c
 k : Bk W r 80 #[.slice tA tn tc]
 t : ∃ cs, Ow 82 3 W w1.heap.size tA tn tc cs
 lt : w1.heap.size ≤ r
 ne : ∀ b, A.map (·.block) = some b → b ≠ r
section
variable {gm : Nat} {w1 W W2 W4 : World} {s : MSt} {A A' : Option Addr} {n c c' r : Nat} {tA : Option Addr} {tn tc : Nat} {cs : List Value}
theorem RgS.up (h : RgS gm w1 W s A n c r tA tn tc) (hg : gm < w1.heap.size) (hu : Up gm W W2) : RgS gm w1 W2 s A n c r tA tn tc := by
 obtain ⟨cs, ht⟩ := h.t;have := h.lt;exact ⟨h.f.up hg hu, hu.bk h.k (by omega), ⟨cs, hu.ow ht hg⟩, h.lt, h.ne⟩
theorem RgS.push (h : RgS gm w1 W s A n c r tA tn tc) (hg : gm < w1.heap.size) (ho : Ow 82 3 W4 w1.heap.size A' (tn + 1) c' cs) (hgr : W.grownBy W4 (tA.map (·.block))) (hb : Below w1.heap.size W W4) :
  Bk W4 r 80 #[.slice tA tn tc] ∧ RgS gm w1 (W4.setCell ⟨r, 0, none⟩ (.slice A' (tn + 1) c')) s A n c r A' (tn + 1) c' := by
 obtain ⟨ts, ht⟩ := h.t;obtain ⟨rs, hr⟩ := h.f.row;have k4 := h.k.grown hgr (h.k.ne_own (by decide) ht);have hr4 := hr.grown hgr (fun b e1 e2 => ow_ne hr ht (by decide) b e1 e2);have hl := h.lt;have hm4 : Mk W4 gm s := h.f.hm.keep fun b hbb => hb.block b (by omega);refine ⟨k4, ⟨hm4.keep fun b hbb => Below.heap_setCell _ ⟨r, 0, none⟩ _ b (by show b ≠ r; omega), ?_, rs, hr4.setOther (p := ⟨r, 0, none⟩) (fun b e1 => h.ne b (by rw [e1]; rfl)) _⟩, k4.set_ 0 _, ⟨_, ho.setOther (p := ⟨r, 0, none⟩) (fun b e1 e2 => k4.ne_own (by decide) ho (by rw [e1]; exact congrArg some e2.symm)) _⟩, hl, h.ne⟩;have h1 := grown_thr h.f.gr hb (Nat.le_refl _);exact ⟨h1.os, h1.tape, h1.output, by rw [World.size_setCell]; exact h1.size, fun k hk hne => (Below.heap_setCell _ ⟨r, 0, none⟩ _ k (by show k ≠ r; omega)).trans (h1.block k hk hne)⟩
end
theorem tent_at (tb q : Nat) (h : q < 5) : ∃ a b c : Int, ∀ W : World, Bk W tb 82 #[.int .i64 0, .int .i64 64, .int .i64 64, .int .i64 0, .int .i64 32, .int .i64 64, .int .i64 (-64), .int .i64 (-64), .int .i64 0, .int .i64 (-1), .int .i64 0, .int .i64 5, .int .i64 10, .int .i64 32, .int .i64 50] → W.cell? ⟨tb, q * 3, none⟩ = some (.int .i64 a) ∧ W.cell? ⟨tb, q * 3 + 1, none⟩ = some (.int .i64 b) ∧ W.cell? ⟨tb, q * 3 + 2, none⟩ = some (.int .i64 c) := by
 obtain rfl | rfl | rfl | rfl | rfl : q = 0 ∨ q = 1 ∨ q = 2 ∨ q = 3 ∨ q = 4 := by omega
 all_goals exact ⟨_, _, _, fun W h => ⟨bx h _ rfl, bx h _ rfl, bx h _ rfl⟩⟩
theorem unit_at (tb q : Nat) (h : q < 4) : ∃ a : Int, ∀ W : World, Bk W tb 3 #[.int .i64 1000, .int .i64 1024, .int .i64 100, .int .i64 2048] → W.cell? ⟨tb, q, none⟩ = some (.int .i64 a) := by
 obtain rfl | rfl | rfl | rfl : q = 0 ∨ q = 1 ∨ q = 2 ∨ q = 3 := by omega
 all_goals exact ⟨_, fun W h => bx h _ rfl⟩
theorem rdG_of {W : World} {B : Nat} {A : Option Addr} {n c : Nat} {css : List (List Value)} {gs : List Gly} (h : Rg 60 9 EGlb W B (bl A) A n c css gs) : RdG W (fun b => B ≤ b ∧ b < W.heap.size) A n gs :=
 (h.rd em_gly (fun b => B ≤ b ∧ b < W.heap.size) (fun _ h1 h2 _ => ⟨h1, h2⟩) (fun b e => ⟨(h.ow.blk b e).1, (h.ow.blk b e).2.1⟩)).mono (fun _ h => h) (Kept.refl _ _) (fun _ _ h => h.gly)
theorem rdL_of {W : World} {B : Nat} {A : Option Addr} {n c : Nat} {css : List (List Value)} {ls : List Lk} (h : Rg 40 3 ELk W B (bl A) A n c css ls) : RdL W (fun b => B ≤ b ∧ b < W.heap.size) A n ls :=
 h.rd em_lk (fun b => B ≤ b ∧ b < W.heap.size) (fun _ h1 h2 _ => ⟨h1, h2⟩) (fun b e => ⟨(h.ow.blk b e).1, (h.ow.blk b e).2.1⟩)
theorem rdG_gr {w W : World} {gm : Nat} {A : Option Addr} {n : Nat} {gs : List Gly} (h : RdG w (fun b => gm < b ∧ b < w.heap.size) A n gs) (hg : w.grownBy W (some gm)) : RdG W (fun b => gm < b ∧ b < W.heap.size) A n gs :=
 h.mono (fun b hb => ⟨hb.1, Nat.lt_of_lt_of_le hb.2 hg.size⟩) (fun b hb => hg.block b hb.2 (fun e => by have := hb.1; injection e with e; omega))
theorem rdL_gr {w W : World} {gm : Nat} {A : Option Addr} {n : Nat} {gs : List Lk} (h : RdL w (fun b => gm < b ∧ b < w.heap.size) A n gs) (hg : w.grownBy W (some gm)) : RdL W (fun b => gm < b ∧ b < W.heap.size) A n gs :=
 h.mono (fun b hb => ⟨hb.1, Nat.lt_of_lt_of_le hb.2 hg.size⟩) (fun b hb => hg.block b hb.2 (fun e => by have := hb.1; injection e with e; omega))
theorem FldS.other {e k e' k' gm : Nat} {w1 W W4 : World} {s : MSt} {A A' : Option Addr} {n c n' c' : Nat} {cs : List Value} (h : FldS e k gm w1 W s A n c) (hg : gm < w1.heap.size) (hx : Ow e' k' W w1.heap.size A' n' c' cs) (hne : e ≠ e') (hgr : W.grownBy W4 (A'.map (·.block))) (hb : Below w1.heap.size W W4) : FldS e k gm w1 W4 s A n c := by
 obtain ⟨rs, hr⟩ := h.row;exact ⟨h.hm.keep fun b hbb => hb.block b (by omega), grown_thr h.gr hb (Nat.le_refl _), rs, hr.grown hgr (fun b e1 e2 => ow_ne hr hx hne b e1 e2)⟩
def store4g (W : World) (g : Nat) (a b c d : Value) : World := (((W.setCell ⟨g, 0, none⟩ a).setCell ⟨g, 1, none⟩ b).setCell ⟨g, 2, none⟩ c).setCell ⟨g, 3, none⟩ d
theorem store4g_bk {W : World} {g t : Nat} {a0 b0 c0 d0 : Value} (h : Bk W g t #[a0, b0, c0, d0]) (a b c d : Value) : Bk (store4g W g a b c d) g t #[a, b, c, d] := by
 have h0 : Bk (W.setCell ⟨g, 0, none⟩ a) g t #[a, b0, c0, d0] := h.set_ 0 a;have h1 : Bk _ g t #[a, b, c0, d0] := h0.set_ 1 b;have h2 : Bk _ g t #[a, b, c, d0] := h1.set_ 2 c;exact h2.set_ 3 d
theorem Up.set4 {gm : Nat} {a w : World} (h : Up gm a w) {g : Nat} (hp : a.heap.size ≤ g) (hg : gm < a.heap.size) (x0 x1 x2 x3 : Value) : Up gm a (store4g w g x0 x1 x2 x3) :=
 (((h.set (p := ⟨g, 0, none⟩) hp hg x0).set (p := ⟨g, 1, none⟩) hp hg x1).set (p := ⟨g, 2, none⟩) hp hg x2).set (p := ⟨g, 3, none⟩) hp hg x3
end Go.Proofs.YtkmdakampkfioaaGreatDoor
