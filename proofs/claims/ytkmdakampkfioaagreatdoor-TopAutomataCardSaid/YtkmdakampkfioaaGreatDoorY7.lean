/- Words: lookups in the making, in a maker. -/
import Derived.Test.YtkmdakampkfioaaGreatDoorY6
namespace Go.Proofs.YtkmdakampkfioaaGreatDoor
open Go.RowKit Go.Shelf
def MSt.lk (s : MSt) (A : Option Addr) (n c : Nat) : MSt := { s with f := { s.f with la := A, ln := n, lc := c } }
theorem Mk.setLk {w : World} {gm n c n' c' : Nat} {s : MSt} {A A' : Option Addr} (h : Mk w gm (s.lk A n c)) : Mk (w.setCell ⟨gm, 5, none⟩ (.slice A' n' c')) gm (s.lk A' n' c') := by
 obtain ⟨a, l, h0, h1, h2, h3⟩ := h;exact ⟨a, l, h0, h1.set_ 5 _, h2.mono (fun _ h => h) (fun x hx => Below.heap_setCell _ ⟨gm, 5, none⟩ _ x (Nat.ne_of_lt hx)), h3⟩
theorem grown_gm {w W : World} {gm i : Nat} (h : w.grownBy W (some gm)) (u : Value) : w.grownBy (W.setCell ⟨gm, i, none⟩ u) (some gm) :=
 ⟨h.os, h.tape, h.output, by rw [World.size_setCell]; exact h.size, fun k hk hne => (Below.heap_setCell _ ⟨gm, i, none⟩ _ k (fun e => hne (by rw [e]))).trans (h.block k hk hne)⟩
theorem grown_thru {w W W4 : World} {gm B : Nat} (h : w.grownBy W (some gm)) (hb : Below B W W4) (hB : w.heap.size ≤ B) : w.grownBy W4 (some gm) :=
 ⟨hb.os.trans h.os, hb.tape.trans h.tape, hb.output.trans h.output, Nat.le_trans h.size hb.size, fun k hk hne => (hb.block k (by omega)).trans (h.block k hk hne)⟩
structure LkB (l : Lk) : Prop where
 n : l.rules.length ≤ 3
 r : ∀ u ∈ l.rules, RulB u
theorem Rg.other {α : Type} {e k : Nat} {E : World → (Nat → Prop) → List Value → α → Prop} {W W4 : World} {B : Nat} {X X' : List Nat} {A C : Option Addr} {n c : Nat} {css : List (List Value)} {xs : List α} (hE : EM k E) (h : Rg e k E W B X A n c css xs) (hg : W.grownBy W4 (C.map (·.block))) (hC : ∀ b, C.map (·.block) = some b → b ∈ X) (hne : ∀ b, A.map (·.block) = some b → C.map (·.block) ≠ some b)
  (hX : ∀ b, B ≤ b → b < W.heap.size → b ∈ X' → b ∈ X) (hA : ∀ b, A.map (·.block) = some b → b ∈ X') : Rg e k E W4 B X' A n c css xs :=
 ⟨h.ow.keep fun b e1 => hg.block b (h.ow.lt b 0 none e1).2 (fun e2 => hne b (by rw [e1]; rfl) e2.symm), h.rw.mono fun _ _ hx => hE.mono hx (fun b hb => ⟨hb.1, Nat.lt_of_lt_of_le hb.2.1 hg.size, fun h1 => hb.2.2 (hX b hb.1 hb.2.1 h1)⟩) (fun b hb => hg.block b hb.2.1 (fun e2 => hb.2.2 (hC b e2.symm))), hA⟩
structure LuS (gm : Nat) (w W : World) (s : MSt) (A : Option Addr) (n c : Nat) (css : List (List Value)) (lks : List Lk) (CA : Option Addr) (cn cc : Nat) (cxs : List Int) (i : Nat) : Prop where
 hm : Mk W gm (s.lk A n c)
 row : Rg 40 3 ELk W w.heap.size (bl A ++ bl CA) A n c css lks
 cal : Ow 3 1 W w.heap.size CA cn cc (ic cxs)
 gr : w.grownBy W (some gm)
 nil : ∀ j, i ≤ j → ∀ cs, css[j]? = some cs → cs[2]? = some (.slice none 0 0)
 non : ∀ j, i ≤ j → ∀ l, lks[j]? = some l → l.rules = []
 lb : ∀ l ∈ lks, LkB l
section
variable {gm : Nat} {w W W2 W4 : World} {s : MSt} {A A' : Option Addr} {n c c' : Nat} {css : List (List Value)} {lks : List Lk} {CA : Option Addr} {cn cc : Nat} {cxs : List Int} {i : Nat}
theorem LuS.len (h : LuS gm w W s A n c css lks CA cn cc cxs i) : lks.length = n ∧ css.length = n := h.row.len em_lk
theorem LuS.upd (h : LuS gm w W s A n c css lks CA cn cc cxs i) (hg : gm < w.heap.size) (hu : Up gm W W2) : LuS gm w W2 s A n c css lks CA cn cc cxs i :=
 ⟨hu.st _ h.hm, h.row.up em_lk hu hg, hu.ow h.cal hg, h.gr.trans hu.gr, h.nil, h.non, h.lb⟩
theorem LuS.ne (h : LuS gm w W s A n c css lks CA cn cc cxs i) : ∀ b, A.map (·.block) = some b → CA.map (·.block) ≠ some b := fun b e => ow_ne h.row.ow h.cal (by decide) b (h.row.ow.blk b e).2.2.1
theorem last_at {α : Type} {l : List α} {x y : α} {j : Nat} (hl : l.length ≤ j) (h : (l ++ [x])[j]? = some y) : y = x := by
 rw [List.getElem?_append_right hl] at h;cases hq : j - l.length with
 | zero => rw [hq] at h; simp at h; exact h.symm
 | succ q => rw [hq] at h; simp at h
theorem LuS.push (h : LuS gm w W s A n c css lks CA cn cc cxs 0) (hg : gm < w.heap.size) {kind : Int} {ign : Bool} (ho : Ow 40 3 W4 w.heap.size A' (n + 1) c' (css.flatten ++ [.int .i64 kind, .bool ign, .slice none 0 0])) (hgr : W.grownBy W4 (A.map (·.block))) (hb : Below w.heap.size W W4) (hat : A'.map (·.block) = A.map (·.block) ∨ A'.map (·.block) = some W.heap.size) :
  Mk W4 gm (s.lk A n c) ∧ LuS gm w (W4.setCell ⟨gm, 5, none⟩ (.slice A' (n + 1) c')) s A' (n + 1) c' (css ++ [[.int .i64 kind, .bool ign, .slice none 0 0]]) (lks ++ [⟨kind, ign, []⟩]) CA cn cc cxs 0 := by
 have hr := h.row.push1 em_lk (cs := [.int .i64 kind, .bool ign, .slice none 0 0]) (y := ⟨kind, ign, []⟩) ⟨none, 0, 0, rfl, SlE.nil, hd_zero⟩ ho hgr hat;have hm4 : Mk W4 gm (s.lk A n c) := h.hm.keep fun b hbb => hb.block b (by omega);refine ⟨hm4, hm4.setLk, hr.set em_lk (p := ⟨gm, 5, none⟩) (.inr hg) (fun e => ?_) _, (h.cal.grown hgr (fun b e1 e2 => ow_ne h.cal h.row.ow (by decide) b e1 e2)).setOther (p := ⟨gm, 5, none⟩) (fun b e => ?_) _, grown_gm (grown_thru h.gr hb (Nat.le_refl _)) _, fun j _ cs hj => ?_, fun j _ l hj => ?_, fun l hl => ?_⟩
 ·have h1 := (hr.ow.blk gm e).1; omega
 ·have h1 := (h.cal.lt b 0 none e).1; show b ≠ gm; omega
 ·by_cases hjn : j < css.length
  ·rw [List.getElem?_append_left hjn] at hj; exact h.nil j (Nat.zero_le _) cs hj
  ·rw [last_at (by omega) hj]; rfl
 ·by_cases hjn : j < lks.length
  ·rw [List.getElem?_append_left hjn] at hj; exact h.non j (Nat.zero_le _) l hj
  ·rw [last_at (by omega) hj]
 ·rcases List.mem_append.1 hl with hl | hl
  ·exact h.lb l hl
  ·rw [List.mem_singleton] at hl; rw [hl]; exact ⟨Nat.zero_le _, fun u hu => by cases hu⟩
theorem LuS.pushCal (h : LuS gm w W s A n c css lks CA cn cc cxs i) (hg : gm < w.heap.size) {x : Int} (ho : Ow 3 1 W4 w.heap.size A' (cn + 1) c' (ic cxs ++ [.int .i64 x])) (hgr : W.grownBy W4 (CA.map (·.block))) (hb : Below w.heap.size W W4) (hat : A'.map (·.block) = CA.map (·.block) ∨ A'.map (·.block) = some W.heap.size) : LuS gm w W4 s A n c css lks A' (cn + 1) c' (cxs ++ [x]) i := by
 refine ⟨h.hm.keep fun b hbb => hb.block b (by omega), h.row.other em_lk hgr (fun b e => List.mem_append_right _ (bl_in.2 e)) h.ne (fun b _ h2 h3 => ?_) (fun b e => List.mem_append_left _ (bl_in.2 e)), by rw [ic_app]; exact ho, grown_thru h.gr hb (Nat.le_refl _), h.nil, h.non, h.lb⟩;rcases List.mem_append.1 h3 with h3 | h3
 ·exact List.mem_append_left _ h3
 ·rw [bl_in] at h3;rcases hat with e | e
  ·exact List.mem_append_right _ (bl_in.2 (e.symm.trans h3))
  ·rw [h3] at e; injection e with e; omega
end
structure LuR (gm : Nat) (w W : World) (s : MSt) (A : Option Addr) (n c : Nat) (css : List (List Value)) (lks : List Lk) (CA : Option Addr) (cn cc : Nat) (cxs : List Int) (i : Nat) (kind : Int) (ign : Bool) (RA : Option Addr) (rn rc : Nat) (rcss : List (List Value)) (rs : List Rul) : Prop where
 hm : Mk W gm (s.lk A n c)
 ow : Ow 40 3 W w.heap.size A n c css.flatten
 l3 : ∀ cs ∈ css, cs.length = 3
 ll : css.length = lks.length
 ith : css[i]? = some [.int .i64 kind, .bool ign, .slice RA rn rc]
 oth : ∀ j, j ≠ i → ∀ cs l, css[j]? = some cs → lks[j]? = some l → ELk W (Fz w.heap.size W (bl A ++ (bl CA ++ bl RA))) cs l
 rr : Rg 91 6 ERul W w.heap.size (bl A ++ (bl CA ++ bl RA)) RA rn rc rcss rs
 cal : Ow 3 1 W w.heap.size CA cn cc (ic cxs)
 gr : w.grownBy W (some gm)
 nil : ∀ j, i < j → ∀ cs, css[j]? = some cs → cs[2]? = some (.slice none 0 0)
 non : ∀ j, i < j → ∀ l, lks[j]? = some l → l.rules = []
 lb : ∀ l ∈ lks, LkB l
 rb : ∀ u ∈ rs, RulB u
section
variable {gm : Nat} {w W W2 W4 : World} {s : MSt} {A A' : Option Addr} {n c c' : Nat} {css : List (List Value)} {lks : List Lk} {CA : Option Addr} {cn cc : Nat} {cxs : List Int} {i : Nat} {kind : Int} {ign : Bool} {RA : Option Addr} {rn rc : Nat} {rcss : List (List Value)} {rs : List Rul}
theorem LuS.start (h : LuS gm w W s A n c css lks CA cn cc cxs i) {l : Lk} (hl : lks[i]? = some l) : LuR gm w W s A n c css lks CA cn cc cxs i l.kind l.ign none 0 0 [] [] := by
 obtain ⟨cs, h1, ⟨B, m, d, rfl, _, _⟩, _⟩ := h.row.rw.at hl;have h2 := h.nil i (Nat.le_refl _) _ h1;have h3 : Value.slice B m d = .slice none 0 0 := by simpa using h2
 rw [h3] at h1;refine ⟨h.hm, h.row.ow, h.row.rw.2.1, h.row.rw.1, h1, fun j _ cs x hc hx => em_lk.mono (h.row.rw.2.2 j cs x hc hx) (fun b hb => ⟨hb.1, hb.2.1, fun h4 => hb.2.2 ?_⟩) (Kept.refl _ _), Rg.nil _ _ _ _ _ _, h.cal, h.gr, fun j hj => h.nil j (by omega), fun j hj => h.non j (by omega), h.lb, fun u hu => by cases hu⟩;simpa [bl] using h4
theorem LuR.upd (h : LuR gm w W s A n c css lks CA cn cc cxs i kind ign RA rn rc rcss rs) (hg : gm < w.heap.size) (hu : Up gm W W2) : LuR gm w W2 s A n c css lks CA cn cc cxs i kind ign RA rn rc rcss rs :=
 ⟨hu.st _ h.hm, hu.ow h.ow hg, h.l3, h.ll, h.ith, fun j hj cs l hc hl => em_lk.mono (h.oth j hj cs l hc hl) (fun _ hb => ⟨hb.1, Nat.lt_of_lt_of_le hb.2.1 hu.size, hb.2.2⟩) (Fz.up hu hg), h.rr.up em_rul hu hg, hu.ow h.cal hg, h.gr.trans hu.gr, h.nil, h.non, h.lb, h.rb⟩
theorem LuR.at (h : LuR gm w W s A n c css lks CA cn cc cxs i kind ign RA rn rc rcss rs) : ∃ gl, A = some ⟨gl, 0, none⟩ ∧ w.heap.size ≤ gl ∧ i < n ∧ W.cell? ⟨gl, i * 3, none⟩ = some (.int .i64 kind) ∧ W.cell? ⟨gl, i * 3 + 2, none⟩ = some (.slice RA rn rc) ∧ W.frozen? ⟨gl, i * 3 + 2, none⟩ = false := by
 have hl := h.ow.len;rw [flat_len h.l3] at hl;have hi := (List.getElem?_eq_some_iff.1 h.ith).1;have hn : css.length = n := by omega
 obtain ⟨gl, e, h1, _⟩ := h.ow.form (by omega);have ho := h.ow;rw [e] at ho;exact ⟨gl, e, h1, by omega, by simpa using ho.cell (flat_at h.l3 h.ith (j := 0) rfl), ho.cell (flat_at h.l3 h.ith (j := 2) rfl), ho.frozen _⟩
theorem LuR.push (h : LuR gm w W s A n c css lks CA cn cc cxs i kind ign RA rn rc rcss rs) (hg : gm < w.heap.size) {gl : Nat} (hA : A = some ⟨gl, 0, none⟩) {cs : List Value} {u : Rul} (hu : ERul W (Fz w.heap.size W (bl A ++ (bl CA ++ bl RA))) cs u) (hub : RulB u) (ho : Ow 91 6 W4 w.heap.size A' (rn + 1) c' (rcss.flatten ++ cs)) (hgr : W.grownBy W4 (RA.map (·.block))) (hb : Below w.heap.size W W4) (hat : A'.map (·.block) = RA.map (·.block) ∨ A'.map (·.block) = some W.heap.size) :
  W4.cell? ⟨gl, i * 3, none⟩ = some (.int .i64 kind) ∧ W4.cell? ⟨gl, i * 3 + 2, none⟩ = some (.slice RA rn rc) ∧ W4.frozen? ⟨gl, i * 3 + 2, none⟩ = false ∧ Mk W4 gm (s.lk A n c) ∧ LuR gm w (W4.setCell ⟨gl, i * 3 + 2, none⟩ (.slice A' (rn + 1) c')) s A n c (css.set i [.int .i64 kind, .bool ign, .slice A' (rn + 1) c']) lks CA cn cc cxs i kind ign A' (rn + 1) c' (rcss ++ [cs]) (rs ++ [u]) := by
 subst hA;have hX : ∀ b, w.heap.size ≤ b → b < W.heap.size → b ∈ bl (some (⟨gl, 0, none⟩ : Addr)) ++ (bl CA ++ bl A') → b ∈ bl (some (⟨gl, 0, none⟩ : Addr)) ++ (bl CA ++ bl RA) := fun b _ h2 h3 => by
  rcases List.mem_append.1 h3 with h3 | h3
  ·exact List.mem_append_left _ h3
  ·rcases List.mem_append.1 h3 with h3 | h3
   ·exact List.mem_append_right _ (List.mem_append_left _ h3)
   ·rw [bl_in] at h3;rcases hat with e | e
    ·exact List.mem_append_right _ (List.mem_append_right _ (bl_in.2 (e.symm.trans h3)))
    ·rw [h3] at e; injection e with e; omega
 have hRX : ∀ b, RA.map (·.block) = some b → b ∈ bl (some (⟨gl, 0, none⟩ : Addr)) ++ (bl CA ++ bl RA) := fun b e => List.mem_append_right _ (List.mem_append_right _ (bl_in.2 e));have hglX : gl ∈ bl (some (⟨gl, 0, none⟩ : Addr)) ++ (bl CA ++ bl A') := List.mem_append_left _ (bl_in.2 rfl);have hrr := h.rr.push em_rul (RowOf.one hu (em_rul.len hu)) (by simpa using ho) hgr hX (fun b e => List.mem_append_right _ (List.mem_append_right _ (bl_in.2 e)));have ho4 := h.ow.grown hgr (fun b e1 e2 => ow_ne h.ow h.rr.ow (by decide) b e1 e2);have hc4 := h.cal.grown hgr (fun b e1 e2 => ow_ne h.cal h.rr.ow (by decide) b e1 e2);have hglR : ∀ b, A'.map (·.block) = some b → b ≠ gl := fun _ e e2 => ow_ne ho4 ho (by decide) gl rfl (by rw [← e2]; exact e);have hglC : ∀ b, CA = some ⟨b, 0, none⟩ → b ≠ gl := fun b e e2 => ow_ne hc4 ho4 (by decide) b e (by rw [e2]; rfl);have hgl := (ho4.blk gl rfl).1;have hm4 : Mk W4 gm (s.lk (some ⟨gl, 0, none⟩) n c) := h.hm.keep fun b hbb => hb.block b (by omega);have hw : RowOf 3 (fun _ (_ : Unit) => True) css (css.map fun _ => ()) := ⟨by simp, h.l3, fun _ _ _ _ _ => trivial⟩;have hput := ho4.put hw h.ith (j := 2) (by omega) (.slice A' (rn + 1) c');have hil := (List.getElem?_eq_some_iff.1 h.ith).1;refine ⟨by simpa using ho4.cell (flat_at h.l3 h.ith (j := 0) rfl), ho4.cell (flat_at h.l3 h.ith (j := 2) rfl), ho4.frozen _, hm4, ?_⟩;refine ⟨hm4.keep fun b hbb => Below.heap_setCell _ ⟨gl, i * 3 + 2, none⟩ _ b (by show b ≠ gl; omega), hput, fun cs hcs => ?_, by rw [List.length_set]; exact h.ll, by rw [List.getElem?_set]; simp [hil], fun j hj cs l hc hl => ?_, hrr.set em_rul (p := ⟨gl, i * 3 + 2, none⟩) (.inl hglX) (fun e => hglR gl e rfl) _, hc4.setOther (p := ⟨gl, i * 3 + 2, none⟩) (fun b e => hglC b e) _, ?_, fun j hj cs hc => ?_, h.non, h.lb, fun x hx => ?_⟩
 ·rcases List.mem_or_eq_of_mem_set hcs with hcs | hcs
  ·exact h.l3 cs hcs
  ·rw [hcs]; rfl
 ·rw [List.getElem?_set_ne (Ne.symm hj)] at hc;exact em_lk.mono (h.oth j hj cs l hc hl) (fun b hb => ⟨hb.1, by rw [World.size_setCell]; exact Nat.lt_of_lt_of_le hb.2.1 hgr.size, fun h1 => hb.2.2 (hX b hb.1 hb.2.1 h1)⟩) (fun b hb => by
   rw [Below.heap_setCell _ ⟨gl, i * 3 + 2, none⟩ _ b (fun e => hb.2.2 (by rw [e]; exact List.mem_append_left _ (bl_in.2 rfl)))];exact hgr.block b hb.2.1 (fun e => hb.2.2 (hRX b e.symm)))
 ·have h1 := grown_thru h.gr hb (Nat.le_refl _);exact ⟨h1.os, h1.tape, h1.output, by rw [World.size_setCell]; exact h1.size, fun k hk hne => (Below.heap_setCell _ ⟨gl, i * 3 + 2, none⟩ _ k (by show k ≠ gl; omega)).trans (h1.block k hk hne)⟩
 ·rw [List.getElem?_set_ne (by omega)] at hc;exact h.nil j hj cs hc
 ·rcases List.mem_append.1 hx with hx | hx
  ·exact h.rb x hx
  ·rw [List.mem_singleton] at hx; rw [hx]; exact hub
theorem LuR.done (h : LuR gm w W s A n c css lks CA cn cc cxs i kind ign RA rn rc rcss rs) (hr3 : rn ≤ 3) : LuS gm w W s A n c css (lks.set i ⟨kind, ign, rs⟩) CA cn cc cxs (i + 1) := by
 have hil := (List.getElem?_eq_some_iff.1 h.ith).1;have hrl := (h.rr.len em_rul).1;have hsub : ∀ b, Fz w.heap.size W (bl A ++ (bl CA ++ bl RA)) b → Fz w.heap.size W (bl A ++ bl CA) b := fun b hb => ⟨hb.1, hb.2.1, fun h1 => hb.2.2 (by
  rcases List.mem_append.1 h1 with h1 | h1
  ·exact List.mem_append_left _ h1
  ·exact List.mem_append_right _ (List.mem_append_left _ h1))⟩
 have hblk : ∀ b, RA.map (·.block) = some b → Fz w.heap.size W (bl A ++ bl CA) b := fun b e => by
  obtain ⟨h1, h2, h3, _⟩ := h.rr.ow.blk b e;refine ⟨h1, h2, fun h4 => ?_⟩;rcases List.mem_append.1 h4 with h4 | h4
  ·exact ow_ne h.rr.ow h.ow (by decide) b h3 (bl_in.1 h4)
  ·exact ow_ne h.rr.ow h.cal (by decide) b h3 (bl_in.1 h4)
 have hrd := h.rr.rd em_rul (Fz w.heap.size W (bl A ++ bl CA)) (fun b h1 h2 h3 => hsub b ⟨h1, h2, h3⟩) hblk;refine ⟨h.hm, ⟨h.ow, ⟨by rw [List.length_set]; exact h.ll, h.l3, fun j cs l hc hl => ?_⟩, fun b e => List.mem_append_left _ (bl_in.2 e)⟩, h.cal, h.gr, fun j hj => h.nil j (by omega), fun j hj l hl => ?_, fun l hl => ?_⟩
 ·by_cases hj : j = i
  ·subst hj;rw [h.ith] at hc; injection hc with hc;rw [List.getElem?_set] at hl;simp at hl;obtain ⟨_, rfl⟩ := hl;subst hc;exact ⟨RA, rn, rc, rfl, hrd, h.rr.ow.cap⟩
  ·rw [List.getElem?_set_ne (Ne.symm hj)] at hl;exact em_lk.mono (h.oth j hj cs l hc hl) hsub (Kept.refl _ _)
 ·rw [List.getElem?_set_ne (by omega)] at hl;exact h.non j (by omega) l hl
 ·rcases List.mem_or_eq_of_mem_set hl with hl | hl
  ·exact h.lb l hl
  ·rw [hl]; exact ⟨by show rs.length ≤ 3; omega, h.rb⟩
theorem LuS.pass (h : LuS gm w W s A n c css lks CA cn cc cxs i) : LuS gm w W s A n c css lks CA cn cc cxs (i + 1) := ⟨h.hm, h.row, h.cal, h.gr, fun j hj => h.nil j (by omega), fun j hj => h.non j (by omega), h.lb⟩
end
end Go.Proofs.YtkmdakampkfioaaGreatDoor
