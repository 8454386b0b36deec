/- Walks: a maker's outline, pieces of programs and programs. -/
import Derived.Test.YtgcmedkaadagmaaDoorTk
import Derived.Test.YtgcmedkaadagmaaDoorY2
import Derived.Deep.RegionHeld
namespace Go.Proofs.YtgcmedkaadagmaaDoor
open Go.RowKit Go.Shelf

theorem elt_point : ElT 77 210 3 24 (.agg #[.int .i64 0, .int .i64 0, .bool false]) := ⟨Tryd.underlying77, by kernel_rfl, rfl, by decide, by decide⟩
theorem elt_ins : ElT 83 208 2 16 (.agg #[.int .i64 0, .int .i64 0]) := ⟨Tryd.underlying83, by kernel_rfl, rfl, by decide, by decide⟩
/-- A world that is spoken of. -/
def Held1 (_ : World) : Prop := True
theorem held1 (w : World) : Held1 w := trivial
theorem world_of {w : World} (_ : Held1 w) : ∃ V, V = w := ⟨w, rfl⟩
theorem Up.set {gm : Nat} {a w : World} (h : Up gm a w) {p : Addr} (hp : a.heap.size ≤ p.block) (hg : gm < a.heap.size) (u : Value) : Up gm a (w.setCell p u) :=
 h.thru (B := a.heap.size) ((Below.refl _ _).setCell hp u) (Nat.le_refl _) hg
theorem wanted_yes {c A B : Prop} [Decidable c] (h : c) (a : A) : if c then A else B := by rw [if_pos h]; exact a
/-- Rows of two types lie in two blocks. -/
theorem ow_ne {e e' k k' : Nat} {w : World} {base base' n n' c c' : Nat} {A B : Option Addr} {cs ds : List Value} (h : Ow e k w base A n c cs) (h' : Ow e' k' w base' B n' c' ds) (hne : e ≠ e') : ∀ b, A = some ⟨b, 0, none⟩ → B.map (·.block) ≠ some b := fun b ea eb => by
 obtain ⟨_, _, _, cur, h1⟩ := h.blk b (by rw [ea]; rfl)
 obtain ⟨_, _, _, cur', h2⟩ := h'.blk b eb
 rw [h1] at h2; injection h2 with h2; injection h2 with _ h2; exact hne h2
/-- An outline in the making. -/
structure OutS (gm : Nat) (w wr : World) (g r : Nat) (A : Option Addr) (n c : Nat) (A2 : Option Addr) (n2 c2 : Nat) : Prop where
 k : Bk wr g 79 #[.slice A n c, .slice A2 n2 c2]
 kr : Bk wr r 79 #[.slice none 0 0, .slice none 0 0]
 p : ∃ cs, Ow 210 3 wr w.heap.size A n c cs
 e : ∃ cs, Ow 3 1 wr w.heap.size A2 n2 c2 cs
 u : Up gm w wr
 lt : w.heap.size ≤ g ∧ w.heap.size ≤ r ∧ g ≠ r
section
variable {gm : Nat} {w wr W W4 : World} {g r : Nat} {A : Option Addr} {n c : Nat} {A2 : Option Addr} {n2 c2 : Nat} {A' : Option Addr} {c' : Nat} {cs : List Value}
theorem OutS.up (h : OutS gm w wr g r A n c A2 n2 c2) (hg : gm < w.heap.size) (hu : Up gm wr W) : OutS gm w W g r A n c A2 n2 c2 := by
 obtain ⟨cs, hp⟩ := h.p
 obtain ⟨ds, he⟩ := h.e
 have := h.lt
 exact ⟨hu.bk h.k (by omega), hu.bk h.kr (by omega), ⟨cs, hu.ow hp hg⟩, ⟨ds, hu.ow he hg⟩, h.u.trans hu, h.lt⟩
theorem OutS.push (h : OutS gm w W g r A n c A2 n2 c2) (hg : gm < w.heap.size) (ho : Ow 210 3 W4 w.heap.size A' (n + 1) c' cs) (hgr : W.grownBy W4 (A.map (·.block))) (hb : Below w.heap.size W W4) :
  Bk W4 g 79 #[.slice A n c, .slice A2 n2 c2] ∧ OutS gm w (W4.setCell ⟨g, 0, none⟩ (.slice A' (n + 1) c')) g r A' (n + 1) c' A2 n2 c2 := by
 obtain ⟨xs, hp⟩ := h.p
 obtain ⟨ds, he⟩ := h.e
 have k4 := h.k.grown hgr (h.k.ne_own (by decide) hp)
 have kr4 := h.kr.grown hgr (h.kr.ne_own (by decide) hp)
 have he4 := he.grown hgr (fun b e1 e2 => ow_ne he hp (by decide) b e1 e2)
 have hl := h.lt
 refine ⟨k4, k4.set_ 0 _, kr4.far (by show r ≠ g; omega) _, ⟨_, ho.setOther (p := ⟨g, 0, none⟩) (fun b e1 e2 => ?_) _⟩, ⟨ds, he4.setOther (p := ⟨g, 0, none⟩) (fun b e1 e2 => ?_) _⟩, (h.u.thru hb (Nat.le_refl _) hg).set hl.1 hg _, hl⟩
 ·exact k4.ne_own (by decide) ho (by rw [e1]; exact congrArg some e2.symm)
 ·exact k4.ne_own (by decide) he4 (by rw [e1]; exact congrArg some e2.symm)
theorem OutS.push2 (h : OutS gm w W g r A n c A2 n2 c2) (hg : gm < w.heap.size) (ho : Ow 3 1 W4 w.heap.size A' (n2 + 1) c' cs) (hgr : W.grownBy W4 (A2.map (·.block))) (hb : Below w.heap.size W W4) :
  Bk W4 g 79 #[.slice A n c, .slice A2 n2 c2] ∧ OutS gm w (W4.setCell ⟨g, 1, none⟩ (.slice A' (n2 + 1) c')) g r A n c A' (n2 + 1) c' := by
 obtain ⟨xs, hp⟩ := h.p
 obtain ⟨ds, he⟩ := h.e
 have k4 := h.k.grown hgr (h.k.ne_own (by decide) he)
 have kr4 := h.kr.grown hgr (h.kr.ne_own (by decide) he)
 have hp4 := hp.grown hgr (fun b e1 e2 => ow_ne hp he (by decide) b e1 e2)
 have hl := h.lt
 refine ⟨k4, k4.set_ 1 _, kr4.far (by show r ≠ g; omega) _, ⟨xs, hp4.setOther (p := ⟨g, 1, none⟩) (fun b e1 e2 => ?_) _⟩, ⟨_, ho.setOther (p := ⟨g, 1, none⟩) (fun b e1 e2 => ?_) _⟩, (h.u.thru hb (Nat.le_refl _) hg).set hl.1 hg _, hl⟩
 ·exact k4.ne_own (by decide) hp4 (by rw [e1]; exact congrArg some e2.symm)
 ·exact k4.ne_own (by decide) ho (by rw [e1]; exact congrArg some e2.symm)
end
/-- What outline leaves. -/
def OutR (gm : Nat) (w : World) (e : Ending) (w' : World) : Prop := ∃ A n c A2 n2 c2, e = .returned (.agg #[.slice A n c, .slice A2 n2 c2]) ∧ n ≤ 10 ∧ Hd n c ∧ Hd n2 c2 ∧ Up gm w w'

set_option maxRecDepth 100000 in
set_option maxHeartbeats 2000000 in
theorem boutline_c (gm : Nat) (s : MSt) (w : World) (h : Mk w gm s) : Calls Tryd.prog 70 #[.pointer (some ⟨gm, 0, none⟩)] w (OutR gm w) := by
 have hg := h.lt
 have H3 := Lib.hid (bnext_c gm 3 s _ ((Up.refl gm w).alloc hg (.cells #[.slice none 0 0, .slice none 0 0] 79) |>.alloc (by rw [World.size_alloc]; omega) (.cells #[.slice none 0 0, .slice none 0 0] 79) |>.st s h) (by omega) (by omega))
 have HN := Lib.hid fun (m : Nat) (h0 : 0 < m) (h1 : m ≤ 100) (W : World) (hu : Up gm w W) => bnext_c gm m s W (hu.st s h) h0 (by omega)
 have kr0 := (Bk.new w 79 #[.slice none 0 0, .slice none 0 0]).alloc (.cells #[.slice none 0 0, .slice none 0 0] 79)
 have kg0 := Bk.new (w.alloc (.cells #[.slice none 0 0, .slice none 0 0] 79)) 79 #[.slice none 0 0, .slice none 0 0]
 have hst0 : OutS gm w ((w.alloc (.cells #[.slice none 0 0, .slice none 0 0] 79)).alloc (.cells #[.slice none 0 0, .slice none 0 0] 79)) (w.heap.size + 1) w.heap.size none 0 0 none 0 0 := by
  rw [World.size_alloc] at kg0
  exact ⟨kg0, kr0, ⟨_, Ow.nil _ _ _ _⟩, ⟨_, Ow.nil _ _ _ _⟩, (Up.refl gm w).alloc hg _ |>.alloc (by rw [World.size_alloc]; omega) _, by omega, by omega, by omega⟩
 clear h kr0 kg0
 go_enter Tryd.func70, Tryd.ntmps70
 go_wp2_with fail
 refine H3.out.mono ?_
 rintro e w1 ⟨k3, rfl, hk3, hu1⟩
 have hst := hst0.up hg hu1
 clear H3 hst0 hu1
 go_upto_region 4 with fail
 obtain ⟨g, hgg⟩ : ∃ g, w.heap.size + 1 = g := ⟨_, rfl⟩
 obtain ⟨r, hrr⟩ : ∃ r, w.heap.size = r := ⟨_, rfl⟩
 have HRR := Lib.hid hrr
 rw [hgg, hrr] at hst ⊢
 clear hgg hrr
 go_loopw [5] (fun iv wr => ∃ (A : Option Addr) (n c : Nat) (A2 : Option Addr) (n2 c2 : Nat) (i : Nat), iv = .int .i64 (i : Int) ∧ i ≤ k3 ∧ n ≤ 5 * i ∧ n2 ≤ i ∧ OutS gm w wr g r A n c A2 n2 c2) (fun iv _ => k3 - (intOf iv).toNat)
 case atStart => exact ⟨none, 0, 0, none, 0, 0, 0, rfl, by omega, by omega, by omega, hst⟩
 case round =>
  clear hst
  obtain ⟨A, n, c, A2, n2, c2, i, rfl, hi, hn, hn2, hst⟩ := hrel
  by_cases hlt : i < k3
  ·have in0 : (i : Int) < (k3 : Int) := by omega
   have H4 := Lib.hid (HN.out 4 (by omega) (by omega) wr hst.u)
   go_wp2_with fail
   refine H4.out.mono ?_
   rintro e w3 ⟨k4, rfl, hk4, hu3⟩
   have hst3 := hst.up hg hu3
   clear H4 hst hu3
   go_upto_region 8 with fail
   go_loopw [7] (fun pv wr => ∃ (A : Option Addr) (n c : Nat) (p : Nat), pv = .int .i64 (p : Int) ∧ p ≤ 2 + k4 ∧ n ≤ 5 * i + p ∧ OutS gm w wr g r A n c A2 n2 c2) (fun pv _ => 2 + k4 - (intOf pv).toNat)
   case atStart => exact ⟨A, n, c, 0, rfl, by omega, by omega, hst3⟩
   case round =>
    clear hst3 hn
    obtain ⟨A, n, c, p, rfl, hp, hn, hst⟩ := hrel
    by_cases hlp : p < 2 + k4
    ·have pn : (p : Int) < 2 + (k4 : Int) := by omega
     have H21 := Lib.hid fun (W : World) (bW : Up gm wr W) => (show Calls Tryd.prog 40 #[.pointer (some ⟨gm, 0, none⟩), .int .i64 21] W (NextR gm 21 W) from HN.out 21 (by omega) (by omega) W (hst.u.trans bW))
     have H4 := Lib.hid fun (W : World) (bW : Up gm wr W) => (show Calls Tryd.prog 40 #[.pointer (some ⟨gm, 0, none⟩), .int .i64 4] W (NextR gm 4 W) from HN.out 4 (by omega) (by omega) W (hst.u.trans bW))
     have y0 := bx hst.k 0 rfl
     have HO := Lib.hid hst
     have hgl := hst.lt.1
     have hwl := hst.u.size
     have hwg : gm < wr.heap.size := by omega
     clear hst
     by_cases hp0 : p = 0
     ·subst hp0
      go_upto_region 10 with fail
      have HS := Lib.hid fun (W : World) (bW : Up gm wr W) => (show Held1 W from held1 _)
      have bb := Up.refl gm wr
      refine wp_region_held_drew (S := fun w' => Held1 w') (by kernel_rfl) ?_ (fun hHeld => ?_)
      ·exact HS.out _ (bb.drewN 1)
      replace bb := bb.drewN 1
      change Up _ _ wr.drew at bb
      generalize hw0 : wr.drew = W0 at hHeld bb ⊢
      clear hw0
      refine tkC 0 ?_
      refine tkC 2 ?_
      refine tkC 6 ?_
      refine tkC 10 ?_
      refine tkC 11 ?_
      refine rd2 1 3 (fun K hK => ?_) (fun K hK => ?_)
      ·have yL : W0.cell? ⟨g, 0, none⟩ = some (.slice A n c) := bb.cell y0 (by show g ≠ gm; omega)
       refine wy ?_
       go_simp
       clear hHeld
       refine hK.out _ _ (HS.out _ bb) fun hHeld => ?_
       clear hK K
       clear yL
       refine rd1 3 fun K hK => ?_
       refine wy ?_
       go_simp
       clear hHeld
       go_at_call 40
       (with_reducible refine (H21.out _ bb).mono ?_)
       rintro e V1 ⟨r1, rfl, hr1, bn⟩
       go_wp2_with fail
       refine hK.out _ _ (HS.out _ (bb.trans bn)) fun hHeld => ?_
       clear hK K
       replace bb := bb.trans bn
       clear bn
       refine tkC 4 ?_
       refine tkC 5 ?_
       refine rd1 7 fun K hK => ?_
       refine wy ?_
       go_simp
       clear hHeld
       go_at_call 40
       (with_reducible refine (H21.out _ bb).mono ?_)
       rintro e V2 ⟨r2, rfl, hr2, bn⟩
       go_wp2_with fail
       refine hK.out _ _ (HS.out _ (bb.trans bn)) fun hHeld => ?_
       clear hK K
       replace bb := bb.trans bn
       clear bn
       refine tkC 8 ?_
       refine tkC 9 ?_
       refine tkC 12 ?_
       refine skC 13 ?_
       refine skC 14 ?_
       refine skC 15 ?_
       refine tkC 16 ?_
       refine tkC 17 ?_
       refine rd1 18 fun K hK => ?_
       refine wy ?_
       go_simp
       clear hHeld
       refine hK.out _ _ (HS.out _ (bb.alloc (by have := bb.size; omega) _)) fun hHeld => ?_
       clear hK K
       obtain ⟨V3, hV⟩ := world_of (hHeld)
       obtain ⟨xs, hcP, hcl, hc1, hnw⟩ : ∃ xs : List Value, True ∧ xs.length = 3 ∧ (∀ u ∈ xs, u.oneCell' = true) ∧ (0 < 1 → ∃ b o, some (⟨V2.heap.size, 0, none⟩ : Addr) = some ⟨b, o, none⟩ ∧ ∀ j u, xs[j]? = some u → V3.cell? ⟨b, o + j, none⟩ = some u) := by
        rw [hV]
        exact ⟨_, trivial, rfl, (by simp [Value.oneCell']), news_new _ _ _⟩
       have bb2 : Up gm wr V3 := by rw [hV]; exact bb.alloc (by have := bb.size; omega) _
       rw [← hV] at hHeld
       rw [← hV]
       clear hV bb
       have bb := bb2
       clear bb2
       refine rd1 19 fun K hK => ?_
       clear hHeld
       have how := (HO.out.up hg bb).p.choose_spec
       have hs4 : w.heap.size ≤ V3.heap.size := by have := bb.size; omega
       refine appStep elt_point (by kernel_rfl) _ _ rfl V3 (w.heap.size) _ _ _ (_) _ 1 1 xs (by rfl) (by rfl) how (by rw [hcl]) hnw hc1 (by omega) hs4 ?_
       intro A' c' W4 ho4 hg4 hb4 hat4
       have hpp := (HO.out.up hg bb).push hg ho4 hg4 hb4
       have k4 := hpp.1
       have hp9 := hpp.2
       have g0 := bx k4 0 rfl
       have z0 := k4.frozen 0
       clear ho4 hg4 hb4 hat4 how hs4 hnw hc1 hcl hcP hpp k4
       refine hkG hK (held1 _) fun hHeld => ?_
       clear hK K
       refine tkC 20 ?_
       refine rd1 21 fun K hK => ?_
       refine wy ?_
       go_simp
       clear hHeld
       refine hK.out _ _ (held1 _) fun hHeld => ?_
       clear hK K
       refine wpAnyH_done (by kernel_rfl) ?_ _
       clear hHeld HS g0 z0 bb
       go_wp2_with fail
       go_roundw
       case rel => exact ⟨A', n + 1, c', 0 + 1, by go_num, by omega, by omega, hp9⟩
       case measure => simp [intOf] <;> omega






      ·refine wy ?_
       go_simp
       clear hHeld
       go_at_call 40
       (with_reducible refine (H21.out _ bb).mono ?_)
       rintro e V1 ⟨r1, rfl, hr1, bn⟩
       go_wp2_with fail
       refine hK.out _ _ (HS.out _ (bb.trans bn)) fun hHeld => ?_
       clear hK K
       replace bb := bb.trans bn
       clear bn
       refine tkC 4 ?_
       refine tkC 5 ?_
       refine rd2 1 7 (fun K hK => ?_) (fun K hK => ?_)
       ·have yL : V1.cell? ⟨g, 0, none⟩ = some (.slice A n c) := bb.cell y0 (by show g ≠ gm; omega)
        refine wy ?_
        go_simp
        clear hHeld
        refine hK.out _ _ (HS.out _ bb) fun hHeld => ?_
        clear hK K
        clear yL
        refine rd1 7 fun K hK => ?_
        refine wy ?_
        go_simp
        clear hHeld
        go_at_call 40
        (with_reducible refine (H21.out _ bb).mono ?_)
        rintro e V2 ⟨r2, rfl, hr2, bn⟩
        go_wp2_with fail
        refine hK.out _ _ (HS.out _ (bb.trans bn)) fun hHeld => ?_
        clear hK K
        replace bb := bb.trans bn
        clear bn
        refine tkC 8 ?_
        refine tkC 9 ?_
        refine tkC 12 ?_
        refine skC 13 ?_
        refine skC 14 ?_
        refine skC 15 ?_
        refine tkC 16 ?_
        refine tkC 17 ?_
        refine rd1 18 fun K hK => ?_
        refine wy ?_
        go_simp
        clear hHeld
        refine hK.out _ _ (HS.out _ (bb.alloc (by have := bb.size; omega) _)) fun hHeld => ?_
        clear hK K
        obtain ⟨V3, hV⟩ := world_of (hHeld)
        obtain ⟨xs, hcP, hcl, hc1, hnw⟩ : ∃ xs : List Value, True ∧ xs.length = 3 ∧ (∀ u ∈ xs, u.oneCell' = true) ∧ (0 < 1 → ∃ b o, some (⟨V2.heap.size, 0, none⟩ : Addr) = some ⟨b, o, none⟩ ∧ ∀ j u, xs[j]? = some u → V3.cell? ⟨b, o + j, none⟩ = some u) := by
         rw [hV]
         exact ⟨_, trivial, rfl, (by simp [Value.oneCell']), news_new _ _ _⟩
        have bb2 : Up gm wr V3 := by rw [hV]; exact bb.alloc (by have := bb.size; omega) _
        rw [← hV] at hHeld
        rw [← hV]
        clear hV bb
        have bb := bb2
        clear bb2
        refine rd1 19 fun K hK => ?_
        clear hHeld
        have how := (HO.out.up hg bb).p.choose_spec
        have hs4 : w.heap.size ≤ V3.heap.size := by have := bb.size; omega
        refine appStep elt_point (by kernel_rfl) _ _ rfl V3 (w.heap.size) _ _ _ (_) _ 1 1 xs (by rfl) (by rfl) how (by rw [hcl]) hnw hc1 (by omega) hs4 ?_
        intro A' c' W4 ho4 hg4 hb4 hat4
        have hpp := (HO.out.up hg bb).push hg ho4 hg4 hb4
        have k4 := hpp.1
        have hp9 := hpp.2
        have g0 := bx k4 0 rfl
        have z0 := k4.frozen 0
        clear ho4 hg4 hb4 hat4 how hs4 hnw hc1 hcl hcP hpp k4
        refine hkG hK (held1 _) fun hHeld => ?_
        clear hK K
        refine tkC 20 ?_
        refine rd1 21 fun K hK => ?_
        refine wy ?_
        go_simp
        clear hHeld
        refine hK.out _ _ (held1 _) fun hHeld => ?_
        clear hK K
        refine wpAnyH_done (by kernel_rfl) ?_ _
        clear hHeld HS g0 z0 bb
        go_wp2_with fail
        go_roundw
        case rel => exact ⟨A', n + 1, c', 0 + 1, by go_num, by omega, by omega, hp9⟩
        case measure => simp [intOf] <;> omega





       ·refine wy ?_
        go_simp
        clear hHeld
        go_at_call 40
        (with_reducible refine (H21.out _ bb).mono ?_)
        rintro e V2 ⟨r2, rfl, hr2, bn⟩
        go_wp2_with fail
        refine hK.out _ _ (HS.out _ (bb.trans bn)) fun hHeld => ?_
        clear hK K
        replace bb := bb.trans bn
        clear bn
        refine tkC 8 ?_
        refine tkC 9 ?_
        refine tkC 12 ?_
        refine skC 13 ?_
        refine skC 14 ?_
        refine skC 15 ?_
        refine tkC 16 ?_
        refine tkC 17 ?_
        refine rd2 1 18 (fun K hK => ?_) (fun K hK => ?_)
        ·have yL : V2.cell? ⟨g, 0, none⟩ = some (.slice A n c) := bb.cell y0 (by show g ≠ gm; omega)
         refine wy ?_
         go_simp
         clear hHeld
         refine hK.out _ _ (HS.out _ bb) fun hHeld => ?_
         clear hK K
         clear yL
         refine rd1 18 fun K hK => ?_
         refine wy ?_
         go_simp
         clear hHeld
         refine hK.out _ _ (HS.out _ (bb.alloc (by have := bb.size; omega) _)) fun hHeld => ?_
         clear hK K
         obtain ⟨V3, hV⟩ := world_of (hHeld)
         obtain ⟨xs, hcP, hcl, hc1, hnw⟩ : ∃ xs : List Value, True ∧ xs.length = 3 ∧ (∀ u ∈ xs, u.oneCell' = true) ∧ (0 < 1 → ∃ b o, some (⟨V2.heap.size, 0, none⟩ : Addr) = some ⟨b, o, none⟩ ∧ ∀ j u, xs[j]? = some u → V3.cell? ⟨b, o + j, none⟩ = some u) := by
          rw [hV]
          exact ⟨_, trivial, rfl, (by simp [Value.oneCell']), news_new _ _ _⟩
         have bb2 : Up gm wr V3 := by rw [hV]; exact bb.alloc (by have := bb.size; omega) _
         rw [← hV] at hHeld
         rw [← hV]
         clear hV bb
         have bb := bb2
         clear bb2
         refine rd1 19 fun K hK => ?_
         clear hHeld
         have how := (HO.out.up hg bb).p.choose_spec
         have hs4 : w.heap.size ≤ V3.heap.size := by have := bb.size; omega
         refine appStep elt_point (by kernel_rfl) _ _ rfl V3 (w.heap.size) _ _ _ (_) _ 1 1 xs (by rfl) (by rfl) how (by rw [hcl]) hnw hc1 (by omega) hs4 ?_
         intro A' c' W4 ho4 hg4 hb4 hat4
         have hpp := (HO.out.up hg bb).push hg ho4 hg4 hb4
         have k4 := hpp.1
         have hp9 := hpp.2
         have g0 := bx k4 0 rfl
         have z0 := k4.frozen 0
         clear ho4 hg4 hb4 hat4 how hs4 hnw hc1 hcl hcP hpp k4
         refine hkG hK (held1 _) fun hHeld => ?_
         clear hK K
         refine tkC 20 ?_
         refine rd1 21 fun K hK => ?_
         refine wy ?_
         go_simp
         clear hHeld
         refine hK.out _ _ (held1 _) fun hHeld => ?_
         clear hK K
         refine wpAnyH_done (by kernel_rfl) ?_ _
         clear hHeld HS g0 z0 bb
         go_wp2_with fail
         go_roundw
         case rel => exact ⟨A', n + 1, c', 0 + 1, by go_num, by omega, by omega, hp9⟩
         case measure => simp [intOf] <;> omega




        ·refine wy ?_
         go_simp
         clear hHeld
         refine hK.out _ _ (HS.out _ (bb.alloc (by have := bb.size; omega) _)) fun hHeld => ?_
         clear hK K
         obtain ⟨V3, hV⟩ := world_of (hHeld)
         obtain ⟨xs, hcP, hcl, hc1, hnw⟩ : ∃ xs : List Value, True ∧ xs.length = 3 ∧ (∀ u ∈ xs, u.oneCell' = true) ∧ (0 < 1 → ∃ b o, some (⟨V2.heap.size, 0, none⟩ : Addr) = some ⟨b, o, none⟩ ∧ ∀ j u, xs[j]? = some u → V3.cell? ⟨b, o + j, none⟩ = some u) := by
          rw [hV]
          exact ⟨_, trivial, rfl, (by simp [Value.oneCell']), news_new _ _ _⟩
         have bb2 : Up gm wr V3 := by rw [hV]; exact bb.alloc (by have := bb.size; omega) _
         rw [← hV] at hHeld
         rw [← hV]
         clear hV bb
         have bb := bb2
         clear bb2
         refine rd1 1 fun K hK => ?_
         have yL : V3.cell? ⟨g, 0, none⟩ = some (.slice A n c) := bb.cell y0 (by show g ≠ gm; omega)
         refine wy ?_
         go_simp
         clear hHeld
         refine hK.out _ _ (HS.out _ bb) fun hHeld => ?_
         clear hK K
         clear yL
         refine rd1 19 fun K hK => ?_
         clear hHeld
         have how := (HO.out.up hg bb).p.choose_spec
         have hs4 : w.heap.size ≤ V3.heap.size := by have := bb.size; omega
         refine appStep elt_point (by kernel_rfl) _ _ rfl V3 (w.heap.size) _ _ _ (_) _ 1 1 xs (by rfl) (by rfl) how (by rw [hcl]) hnw hc1 (by omega) hs4 ?_
         intro A' c' W4 ho4 hg4 hb4 hat4
         have hpp := (HO.out.up hg bb).push hg ho4 hg4 hb4
         have k4 := hpp.1
         have hp9 := hpp.2
         have g0 := bx k4 0 rfl
         have z0 := k4.frozen 0
         clear ho4 hg4 hb4 hat4 how hs4 hnw hc1 hcl hcP hpp k4
         refine hkG hK (held1 _) fun hHeld => ?_
         clear hK K
         refine tkC 20 ?_
         refine rd1 21 fun K hK => ?_
         refine wy ?_
         go_simp
         clear hHeld
         refine hK.out _ _ (held1 _) fun hHeld => ?_
         clear hK K
         refine wpAnyH_done (by kernel_rfl) ?_ _
         clear hHeld HS g0 z0 bb
         go_wp2_with fail
         go_roundw
         case rel => exact ⟨A', n + 1, c', 0 + 1, by go_num, by omega, by omega, hp9⟩
         case measure => simp [intOf] <;> omega







     ·have p0 : ((p : Int) == 0) = false := by simp; omega
      have p0' : (p == 0) = false := by simpa using hp0
      clear hp0
      go_upto_region 10 with fail
      have HS := Lib.hid fun (W : World) (bW : Up gm wr W) => (show Held1 W from held1 _)
      have bb := Up.refl gm wr
      refine wp_region_held_drew (S := fun w' => Held1 w') (by kernel_rfl) ?_ (fun hHeld => ?_)
      ·exact HS.out _ (bb.drewN 1)
      replace bb := bb.drewN 1
      change Up _ _ wr.drew at bb
      generalize hw0 : wr.drew = W0 at hHeld bb ⊢
      clear hw0
      refine tkC 0 ?_
      refine tkC 2 ?_
      refine tkC 6 ?_
      refine tkC 10 ?_
      refine tkC 11 ?_
      refine rd2 1 3 (fun K hK => ?_) (fun K hK => ?_)
      ·have yL : W0.cell? ⟨g, 0, none⟩ = some (.slice A n c) := bb.cell y0 (by show g ≠ gm; omega)
       refine wy ?_
       go_simp
       clear hHeld
       refine hK.out _ _ (HS.out _ bb) fun hHeld => ?_
       clear hK K
       clear yL
       refine rd1 3 fun K hK => ?_
       refine wy ?_
       go_simp
       clear hHeld
       go_at_call 40
       (with_reducible refine (H21.out _ bb).mono ?_)
       rintro e V1 ⟨r1, rfl, hr1, bn⟩
       go_wp2_with fail
       refine hK.out _ _ (HS.out _ (bb.trans bn)) fun hHeld => ?_
       clear hK K
       replace bb := bb.trans bn
       clear bn
       refine tkC 4 ?_
       refine tkC 5 ?_
       refine rd1 7 fun K hK => ?_
       refine wy ?_
       go_simp
       clear hHeld
       go_at_call 40
       (with_reducible refine (H21.out _ bb).mono ?_)
       rintro e V2 ⟨r2, rfl, hr2, bn⟩
       go_wp2_with fail
       refine hK.out _ _ (HS.out _ (bb.trans bn)) fun hHeld => ?_
       clear hK K
       replace bb := bb.trans bn
       clear bn
       refine tkC 8 ?_
       refine tkC 9 ?_
       refine tkC 12 ?_
       refine tkC 13 ?_
       refine rd1 14 fun K hK => ?_
       refine wy ?_
       go_simp
       clear hHeld
       go_at_call 40
       (with_reducible refine (H4.out _ bb).mono ?_)
       rintro e V3 ⟨r3, rfl, hr3, bn⟩
       go_wp2_with fail
       refine hK.out _ _ (HS.out _ (bb.trans bn)) fun hHeld => ?_
       clear hK K
       replace bb := bb.trans bn
       clear bn
       refine tkC 15 ?_
       refine tkC 16 ?_
       refine tkC 17 ?_
       refine rd1 18 fun K hK => ?_
       refine wy ?_
       go_simp
       clear hHeld
       refine hK.out _ _ (HS.out _ (bb.alloc (by have := bb.size; omega) _)) fun hHeld => ?_
       clear hK K
       obtain ⟨V4, hV⟩ := world_of (hHeld)
       obtain ⟨xs, hcP, hcl, hc1, hnw⟩ : ∃ xs : List Value, True ∧ xs.length = 3 ∧ (∀ u ∈ xs, u.oneCell' = true) ∧ (0 < 1 → ∃ b o, some (⟨V3.heap.size, 0, none⟩ : Addr) = some ⟨b, o, none⟩ ∧ ∀ j u, xs[j]? = some u → V4.cell? ⟨b, o + j, none⟩ = some u) := by
        rw [hV]
        exact ⟨_, trivial, rfl, (by simp [Value.oneCell']), news_new _ _ _⟩
       have bb2 : Up gm wr V4 := by rw [hV]; exact bb.alloc (by have := bb.size; omega) _
       rw [← hV] at hHeld
       rw [← hV]
       clear hV bb
       have bb := bb2
       clear bb2
       refine rd1 19 fun K hK => ?_
       clear hHeld
       have how := (HO.out.up hg bb).p.choose_spec
       have hs4 : w.heap.size ≤ V4.heap.size := by have := bb.size; omega
       refine appStep elt_point (by kernel_rfl) _ _ rfl V4 (w.heap.size) _ _ _ (_) _ 1 1 xs (by rfl) (by rfl) how (by rw [hcl]) hnw hc1 (by omega) hs4 ?_
       intro A' c' W4 ho4 hg4 hb4 hat4
       have hpp := (HO.out.up hg bb).push hg ho4 hg4 hb4
       have k4 := hpp.1
       have hp9 := hpp.2
       have g0 := bx k4 0 rfl
       have z0 := k4.frozen 0
       clear ho4 hg4 hb4 hat4 how hs4 hnw hc1 hcl hcP hpp k4
       refine hkG hK (held1 _) fun hHeld => ?_
       clear hK K
       refine tkC 20 ?_
       refine rd1 21 fun K hK => ?_
       refine wy ?_
       go_simp
       clear hHeld
       refine hK.out _ _ (held1 _) fun hHeld => ?_
       clear hK K
       refine wpAnyH_done (by kernel_rfl) ?_ _
       clear hHeld HS g0 z0 bb
       go_wp2_with fail
       go_roundw
       case rel => exact ⟨A', n + 1, c', p + 1, by go_num, by omega, by omega, hp9⟩
       case measure => simp [intOf] <;> omega







      ·refine wy ?_
       go_simp
       clear hHeld
       go_at_call 40
       (with_reducible refine (H21.out _ bb).mono ?_)
       rintro e V1 ⟨r1, rfl, hr1, bn⟩
       go_wp2_with fail
       refine hK.out _ _ (HS.out _ (bb.trans bn)) fun hHeld => ?_
       clear hK K
       replace bb := bb.trans bn
       clear bn
       refine tkC 4 ?_
       refine tkC 5 ?_
       refine rd2 1 7 (fun K hK => ?_) (fun K hK => ?_)
       ·have yL : V1.cell? ⟨g, 0, none⟩ = some (.slice A n c) := bb.cell y0 (by show g ≠ gm; omega)
        refine wy ?_
        go_simp
        clear hHeld
        refine hK.out _ _ (HS.out _ bb) fun hHeld => ?_
        clear hK K
        clear yL
        refine rd1 7 fun K hK => ?_
        refine wy ?_
        go_simp
        clear hHeld
        go_at_call 40
        (with_reducible refine (H21.out _ bb).mono ?_)
        rintro e V2 ⟨r2, rfl, hr2, bn⟩
        go_wp2_with fail
        refine hK.out _ _ (HS.out _ (bb.trans bn)) fun hHeld => ?_
        clear hK K
        replace bb := bb.trans bn
        clear bn
        refine tkC 8 ?_
        refine tkC 9 ?_
        refine tkC 12 ?_
        refine tkC 13 ?_
        refine rd1 14 fun K hK => ?_
        refine wy ?_
        go_simp
        clear hHeld
        go_at_call 40
        (with_reducible refine (H4.out _ bb).mono ?_)
        rintro e V3 ⟨r3, rfl, hr3, bn⟩
        go_wp2_with fail
        refine hK.out _ _ (HS.out _ (bb.trans bn)) fun hHeld => ?_
        clear hK K
        replace bb := bb.trans bn
        clear bn
        refine tkC 15 ?_
        refine tkC 16 ?_
        refine tkC 17 ?_
        refine rd1 18 fun K hK => ?_
        refine wy ?_
        go_simp
        clear hHeld
        refine hK.out _ _ (HS.out _ (bb.alloc (by have := bb.size; omega) _)) fun hHeld => ?_
        clear hK K
        obtain ⟨V4, hV⟩ := world_of (hHeld)
        obtain ⟨xs, hcP, hcl, hc1, hnw⟩ : ∃ xs : List Value, True ∧ xs.length = 3 ∧ (∀ u ∈ xs, u.oneCell' = true) ∧ (0 < 1 → ∃ b o, some (⟨V3.heap.size, 0, none⟩ : Addr) = some ⟨b, o, none⟩ ∧ ∀ j u, xs[j]? = some u → V4.cell? ⟨b, o + j, none⟩ = some u) := by
         rw [hV]
         exact ⟨_, trivial, rfl, (by simp [Value.oneCell']), news_new _ _ _⟩
        have bb2 : Up gm wr V4 := by rw [hV]; exact bb.alloc (by have := bb.size; omega) _
        rw [← hV] at hHeld
        rw [← hV]
        clear hV bb
        have bb := bb2
        clear bb2
        refine rd1 19 fun K hK => ?_
        clear hHeld
        have how := (HO.out.up hg bb).p.choose_spec
        have hs4 : w.heap.size ≤ V4.heap.size := by have := bb.size; omega
        refine appStep elt_point (by kernel_rfl) _ _ rfl V4 (w.heap.size) _ _ _ (_) _ 1 1 xs (by rfl) (by rfl) how (by rw [hcl]) hnw hc1 (by omega) hs4 ?_
        intro A' c' W4 ho4 hg4 hb4 hat4
        have hpp := (HO.out.up hg bb).push hg ho4 hg4 hb4
        have k4 := hpp.1
        have hp9 := hpp.2
        have g0 := bx k4 0 rfl
        have z0 := k4.frozen 0
        clear ho4 hg4 hb4 hat4 how hs4 hnw hc1 hcl hcP hpp k4
        refine hkG hK (held1 _) fun hHeld => ?_
        clear hK K
        refine tkC 20 ?_
        refine rd1 21 fun K hK => ?_
        refine wy ?_
        go_simp
        clear hHeld
        refine hK.out _ _ (held1 _) fun hHeld => ?_
        clear hK K
        refine wpAnyH_done (by kernel_rfl) ?_ _
        clear hHeld HS g0 z0 bb
        go_wp2_with fail
        go_roundw
        case rel => exact ⟨A', n + 1, c', p + 1, by go_num, by omega, by omega, hp9⟩
        case measure => simp [intOf] <;> omega






       ·refine wy ?_
        go_simp
        clear hHeld
        go_at_call 40
        (with_reducible refine (H21.out _ bb).mono ?_)
        rintro e V2 ⟨r2, rfl, hr2, bn⟩
        go_wp2_with fail
        refine hK.out _ _ (HS.out _ (bb.trans bn)) fun hHeld => ?_
        clear hK K
        replace bb := bb.trans bn
        clear bn
        refine tkC 8 ?_
        refine tkC 9 ?_
        refine tkC 12 ?_
        refine tkC 13 ?_
        refine rd2 1 14 (fun K hK => ?_) (fun K hK => ?_)
        ·have yL : V2.cell? ⟨g, 0, none⟩ = some (.slice A n c) := bb.cell y0 (by show g ≠ gm; omega)
         refine wy ?_
         go_simp
         clear hHeld
         refine hK.out _ _ (HS.out _ bb) fun hHeld => ?_
         clear hK K
         clear yL
         refine rd1 14 fun K hK => ?_
         refine wy ?_
         go_simp
         clear hHeld
         go_at_call 40
         (with_reducible refine (H4.out _ bb).mono ?_)
         rintro e V3 ⟨r3, rfl, hr3, bn⟩
         go_wp2_with fail
         refine hK.out _ _ (HS.out _ (bb.trans bn)) fun hHeld => ?_
         clear hK K
         replace bb := bb.trans bn
         clear bn
         refine tkC 15 ?_
         refine tkC 16 ?_
         refine tkC 17 ?_
         refine rd1 18 fun K hK => ?_
         refine wy ?_
         go_simp
         clear hHeld
         refine hK.out _ _ (HS.out _ (bb.alloc (by have := bb.size; omega) _)) fun hHeld => ?_
         clear hK K
         obtain ⟨V4, hV⟩ := world_of (hHeld)
         obtain ⟨xs, hcP, hcl, hc1, hnw⟩ : ∃ xs : List Value, True ∧ xs.length = 3 ∧ (∀ u ∈ xs, u.oneCell' = true) ∧ (0 < 1 → ∃ b o, some (⟨V3.heap.size, 0, none⟩ : Addr) = some ⟨b, o, none⟩ ∧ ∀ j u, xs[j]? = some u → V4.cell? ⟨b, o + j, none⟩ = some u) := by
          rw [hV]
          exact ⟨_, trivial, rfl, (by simp [Value.oneCell']), news_new _ _ _⟩
         have bb2 : Up gm wr V4 := by rw [hV]; exact bb.alloc (by have := bb.size; omega) _
         rw [← hV] at hHeld
         rw [← hV]
         clear hV bb
         have bb := bb2
         clear bb2
         refine rd1 19 fun K hK => ?_
         clear hHeld
         have how := (HO.out.up hg bb).p.choose_spec
         have hs4 : w.heap.size ≤ V4.heap.size := by have := bb.size; omega
         refine appStep elt_point (by kernel_rfl) _ _ rfl V4 (w.heap.size) _ _ _ (_) _ 1 1 xs (by rfl) (by rfl) how (by rw [hcl]) hnw hc1 (by omega) hs4 ?_
         intro A' c' W4 ho4 hg4 hb4 hat4
         have hpp := (HO.out.up hg bb).push hg ho4 hg4 hb4
         have k4 := hpp.1
         have hp9 := hpp.2
         have g0 := bx k4 0 rfl
         have z0 := k4.frozen 0
         clear ho4 hg4 hb4 hat4 how hs4 hnw hc1 hcl hcP hpp k4
         refine hkG hK (held1 _) fun hHeld => ?_
         clear hK K
         refine tkC 20 ?_
         refine rd1 21 fun K hK => ?_
         refine wy ?_
         go_simp
         clear hHeld
         refine hK.out _ _ (held1 _) fun hHeld => ?_
         clear hK K
         refine wpAnyH_done (by kernel_rfl) ?_ _
         clear hHeld HS g0 z0 bb
         go_wp2_with fail
         go_roundw
         case rel => exact ⟨A', n + 1, c', p + 1, by go_num, by omega, by omega, hp9⟩
         case measure => simp [intOf] <;> omega





        ·refine wy ?_
         go_simp
         clear hHeld
         go_at_call 40
         (with_reducible refine (H4.out _ bb).mono ?_)
         rintro e V3 ⟨r3, rfl, hr3, bn⟩
         go_wp2_with fail
         refine hK.out _ _ (HS.out _ (bb.trans bn)) fun hHeld => ?_
         clear hK K
         replace bb := bb.trans bn
         clear bn
         refine tkC 15 ?_
         refine tkC 16 ?_
         refine tkC 17 ?_
         refine rd2 1 18 (fun K hK => ?_) (fun K hK => ?_)
         ·have yL : V3.cell? ⟨g, 0, none⟩ = some (.slice A n c) := bb.cell y0 (by show g ≠ gm; omega)
          refine wy ?_
          go_simp
          clear hHeld
          refine hK.out _ _ (HS.out _ bb) fun hHeld => ?_
          clear hK K
          clear yL
          refine rd1 18 fun K hK => ?_
          refine wy ?_
          go_simp
          clear hHeld
          refine hK.out _ _ (HS.out _ (bb.alloc (by have := bb.size; omega) _)) fun hHeld => ?_
          clear hK K
          obtain ⟨V4, hV⟩ := world_of (hHeld)
          obtain ⟨xs, hcP, hcl, hc1, hnw⟩ : ∃ xs : List Value, True ∧ xs.length = 3 ∧ (∀ u ∈ xs, u.oneCell' = true) ∧ (0 < 1 → ∃ b o, some (⟨V3.heap.size, 0, none⟩ : Addr) = some ⟨b, o, none⟩ ∧ ∀ j u, xs[j]? = some u → V4.cell? ⟨b, o + j, none⟩ = some u) := by
           rw [hV]
           exact ⟨_, trivial, rfl, (by simp [Value.oneCell']), news_new _ _ _⟩
          have bb2 : Up gm wr V4 := by rw [hV]; exact bb.alloc (by have := bb.size; omega) _
          rw [← hV] at hHeld
          rw [← hV]
          clear hV bb
          have bb := bb2
          clear bb2
          refine rd1 19 fun K hK => ?_
          clear hHeld
          have how := (HO.out.up hg bb).p.choose_spec
          have hs4 : w.heap.size ≤ V4.heap.size := by have := bb.size; omega
          refine appStep elt_point (by kernel_rfl) _ _ rfl V4 (w.heap.size) _ _ _ (_) _ 1 1 xs (by rfl) (by rfl) how (by rw [hcl]) hnw hc1 (by omega) hs4 ?_
          intro A' c' W4 ho4 hg4 hb4 hat4
          have hpp := (HO.out.up hg bb).push hg ho4 hg4 hb4
          have k4 := hpp.1
          have hp9 := hpp.2
          have g0 := bx k4 0 rfl
          have z0 := k4.frozen 0
          clear ho4 hg4 hb4 hat4 how hs4 hnw hc1 hcl hcP hpp k4
          refine hkG hK (held1 _) fun hHeld => ?_
          clear hK K
          refine tkC 20 ?_
          refine rd1 21 fun K hK => ?_
          refine wy ?_
          go_simp
          clear hHeld
          refine hK.out _ _ (held1 _) fun hHeld => ?_
          clear hK K
          refine wpAnyH_done (by kernel_rfl) ?_ _
          clear hHeld HS g0 z0 bb
          go_wp2_with fail
          go_roundw
          case rel => exact ⟨A', n + 1, c', p + 1, by go_num, by omega, by omega, hp9⟩
          case measure => simp [intOf] <;> omega




         ·refine wy ?_
          go_simp
          clear hHeld
          refine hK.out _ _ (HS.out _ (bb.alloc (by have := bb.size; omega) _)) fun hHeld => ?_
          clear hK K
          obtain ⟨V4, hV⟩ := world_of (hHeld)
          obtain ⟨xs, hcP, hcl, hc1, hnw⟩ : ∃ xs : List Value, True ∧ xs.length = 3 ∧ (∀ u ∈ xs, u.oneCell' = true) ∧ (0 < 1 → ∃ b o, some (⟨V3.heap.size, 0, none⟩ : Addr) = some ⟨b, o, none⟩ ∧ ∀ j u, xs[j]? = some u → V4.cell? ⟨b, o + j, none⟩ = some u) := by
           rw [hV]
           exact ⟨_, trivial, rfl, (by simp [Value.oneCell']), news_new _ _ _⟩
          have bb2 : Up gm wr V4 := by rw [hV]; exact bb.alloc (by have := bb.size; omega) _
          rw [← hV] at hHeld
          rw [← hV]
          clear hV bb
          have bb := bb2
          clear bb2
          refine rd1 1 fun K hK => ?_
          have yL : V4.cell? ⟨g, 0, none⟩ = some (.slice A n c) := bb.cell y0 (by show g ≠ gm; omega)
          refine wy ?_
          go_simp
          clear hHeld
          refine hK.out _ _ (HS.out _ bb) fun hHeld => ?_
          clear hK K
          clear yL
          refine rd1 19 fun K hK => ?_
          clear hHeld
          have how := (HO.out.up hg bb).p.choose_spec
          have hs4 : w.heap.size ≤ V4.heap.size := by have := bb.size; omega
          refine appStep elt_point (by kernel_rfl) _ _ rfl V4 (w.heap.size) _ _ _ (_) _ 1 1 xs (by rfl) (by rfl) how (by rw [hcl]) hnw hc1 (by omega) hs4 ?_
          intro A' c' W4 ho4 hg4 hb4 hat4
          have hpp := (HO.out.up hg bb).push hg ho4 hg4 hb4
          have k4 := hpp.1
          have hp9 := hpp.2
          have g0 := bx k4 0 rfl
          have z0 := k4.frozen 0
          clear ho4 hg4 hb4 hat4 how hs4 hnw hc1 hcl hcP hpp k4
          refine hkG hK (held1 _) fun hHeld => ?_
          clear hK K
          refine tkC 20 ?_
          refine rd1 21 fun K hK => ?_
          refine wy ?_
          go_simp
          clear hHeld
          refine hK.out _ _ (held1 _) fun hHeld => ?_
          clear hK K
          refine wpAnyH_done (by kernel_rfl) ?_ _
          clear hHeld HS g0 z0 bb
          go_wp2_with fail
          go_roundw
          case rel => exact ⟨A', n + 1, c', p + 1, by go_num, by omega, by omega, hp9⟩
          case measure => simp [intOf] <;> omega








    ·have pn : ¬ ((p : Int) < 2 + (k4 : Int)) := by omega
     have hpe : p = 2 + k4 := by omega
     have y0 := bx hst.k 0 rfl
     have y1 := bx hst.k 1 rfl
     obtain ⟨ds, he⟩ := hst.e
     have hs3 : w.heap.size ≤ (wr.alloc (.cells #[.int .i64 ((n : Int) - 1)] 3)).heap.size := by rw [World.size_alloc]; have := hst.u.size; omega
     have hu4 := (Up.refl gm wr).alloc (by have := hst.u.size; omega) (.cells #[.int .i64 ((n : Int) - 1)] 3)
     have hst4 := hst.up hg hu4
     go_wp2_with (at_builtin; refine appP elt_int rfl _ _ rfl (wr.alloc (.cells #[.int .i64 ((n : Int) - 1)] 3)) w.heap.size _ _ _ ds _ 1 1 [.int .i64 ((n : Int) - 1)] (by rfl) (by rfl) (hu4.ow he hg) rfl (fun _ => news_new _ _ _ (by omega)) (by simp [Value.oneCell']) (by omega) hs3 ?_; intro A' c' W4 ho4 hg4 hb4 hat4; obtain ⟨k4', hst5⟩ := hst4.push2 hg ho4 hg4 hb4; have g1 := bx k4' 1 rfl; have z1 := k4'.frozen 1)
     clear ho4 hg4 hb4 hat4 hst hst4 hu4 hs3 g1 z1 k4' y0 y1 he
     go_roundw
     case rel => exact ⟨A, n, c, A', n2 + 1, c', i + 1, by go_num, by omega, by omega, by omega, hst5⟩
     case measure => simp [intOf]; omega
  ·have in0 : ¬ (i : Int) < (k3 : Int) := by omega
   have y0 := bx hst.k 0 rfl
   have y1 := bx hst.k 1 rfl
   have r0 := bx hst.kr 0 rfl
   have r1 := bx hst.kr 1 rfl
   have f0 := hst.kr.frozen 0
   have f1 := hst.kr.frozen 1
   have hu5 := (hst.u.set (p := ⟨r, 0, none⟩) hst.lt.2.1 hg (.slice A n c)).set (p := ⟨r, 1, none⟩) hst.lt.2.1 hg (.slice A2 n2 c2)
   have k5 := (hst.kr.set_ 0 (.slice A n c)).set_ 1 (.slice A2 n2 c2)
   have HF := Lib.hid (And.intro k5 hu5)
   obtain ⟨cs, hp⟩ := hst.p
   obtain ⟨ds, he⟩ := hst.e
   have hd1 := hp.cap
   have hd2 := he.cap
   clear hst hp he k5 hu5
   go_upto_region 12 with fail
   go_cut [] (fun wx => Bk wx r 79 #[.slice A n c, .slice A2 n2 c2] ∧ Up gm w wx)
   case first =>
    go_wp2_with fail
    go_meet
    exact HF.out
   case rest =>
    clear HF
    obtain ⟨k5, hu5⟩ := hcut
    have q0 := bx k5 0 rfl
    have q1 := bx k5 1 rfl
    clear k5
    go_wp2_with (exact bodyPost_ret (v := .agg #[.slice A n c, .slice A2 n2 c2]) (by simp [results, Tryd.results70, go_sem, q0, q1]) rfl ⟨A, n, c, A2, n2, c2, rfl, by omega, hd1, hd2, hu5⟩)


end Go.Proofs.YtgcmedkaadagmaaDoor
