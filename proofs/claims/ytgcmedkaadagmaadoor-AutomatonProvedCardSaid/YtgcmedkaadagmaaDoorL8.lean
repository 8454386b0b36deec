/- Words: rows of any elements in the making. Walks: row. -/
import Derived.Test.YtgcmedkaadagmaaDoorTk
import Derived.Test.YtgcmedkaadagmaaDoorL7h
import Derived.Test.YtgcmedkaadagmaaDoorP2
namespace Go.Proofs.YtgcmedkaadagmaaDoor
open Go.RowKit Go.Shelf Go.Maps

/-- What is asked of a reading of elements. -/
structure EMono {α : Type} (k : Nat) (E : World → (Nat → Prop) → List Value → α → Prop) : Prop where
 mono : ∀ {w w' : World} {S S' : Nat → Prop} {cs : List Value} {x : α}, E w S cs x → (∀ b, S b → S' b) → Kept S w w' → E w' S' cs x
 len : ∀ {w : World} {S : Nat → Prop} {cs : List Value} {x : α}, E w S cs x → cs.length = k
 pos : 0 < k
theorem em_row : EMono 1 ERow := ⟨fun h hS hk => h.mono hS hk, fun ⟨_, _, _, e, _⟩ => by rw [e]; rfl, by omega⟩
theorem em_rule : EMono 6 ERul := ⟨fun h hS hk => h.mono hS hk, fun h => erul_len _ _ h, by omega⟩
/-- A row in the making, of the call's own. -/
structure MkG {α : Type} (e k : Nat) (E : World → (Nat → Prop) → List Value → α → Prop) (w W : World) (D : Nat → Prop) (A : Option Addr) (n c : Nat) (css : List (List Value)) (xs : List α) : Prop where
 ow : Ow e k W w.heap.size A n c css.flatten
 rw : RowOf k (E W D) css xs
 dl : ∀ b, D b → w.heap.size ≤ b ∧ b < W.heap.size ∧ A.map (·.block) ≠ some b
 bl : Below w.heap.size w W
section
variable {α : Type} {e k : Nat} {E : World → (Nat → Prop) → List Value → α → Prop} {w W W2 : World} {D : Nat → Prop} {A : Option Addr} {n c : Nat} {css : List (List Value)} {xs : List α}
theorem MkG.call (hE : EMono k E) (h : MkG e k E w W D A n c css xs) (hb : Below W.heap.size W W2) : MkG e k E w W2 D A n c css xs :=
 ⟨h.ow.call hb, h.rw.mono fun _ _ hx => hE.mono hx (fun _ h => h) (fun b hd => hb.block b (h.dl b hd).2.1), fun b hd => ⟨(h.dl b hd).1, Nat.lt_of_lt_of_le (h.dl b hd).2.1 hb.size, (h.dl b hd).2.2⟩, below_call h.bl hb⟩
theorem MkG.rd (hE : EMono k E) (h : MkG e k E w W D A n c css xs) : SlE k (E W (fun b => w.heap.size ≤ b ∧ b < W.heap.size)) W (fun b => w.heap.size ≤ b ∧ b < W.heap.size) A n xs := by
 have h1 := h.ow.row (h.rw.mono fun cs x hx => hE.mono hx (fun b hd => (⟨(h.dl b hd).1, (h.dl b hd).2.1⟩ : w.heap.size ≤ b ∧ b < W.heap.size)) (Kept.refl _ _)) hE.pos
 refine ⟨h1.1, fun hn => ?_⟩
 obtain ⟨b, o, e1, _, hc⟩ := h1.2 hn
 exact ⟨b, o, e1, ⟨(h.ow.lt b o none e1).1, (h.ow.lt b o none e1).2⟩, hc⟩
/-- One element more. -/
theorem MkG.push (hE : EMono k E) (h : MkG e k E w W D A n c css xs) (hb : Below W.heap.size W W2) {D2 : Nat → Prop} (hD : ∀ b, D2 b → W.heap.size ≤ b ∧ b < W2.heap.size) {cs : List Value} {r : α} (hr : E W2 D2 cs r) {o : Obj} {W4 : World} {A' : Option Addr} {c' : Nat}
  (ho : Ow e k W4 w.heap.size A' (n + 1) c' (css.flatten ++ cs)) (hg : (W2.alloc o).grownBy W4 (A.map (·.block))) (hb4 : Below w.heap.size (W2.alloc o) W4) (hat : A'.map (·.block) = A.map (·.block) ∨ A'.map (·.block) = some (W2.alloc o).heap.size) :
  MkG e k E w W4 (fun b => D b ∨ D2 b) A' (n + 1) c' (css ++ [cs]) (xs ++ [r]) := by
 have s0 := h.bl.size
 have s1 := hb.size
 have s4 := hg.size
 rw [World.size_alloc] at s4
 have al : ∀ b, A.map (·.block) = some b → b < W.heap.size := fun b e => (h.ow.blk b e).2.1
 have kk : ∀ b, b < W2.heap.size → A.map (·.block) ≠ some b → W4.heap[b]? = W2.heap[b]? := fun b h1 h2 => by
  rw [hg.block b (by rw [World.size_alloc]; omega) (fun e => h2 e.symm), Below.heap_alloc W2 o b h1]
 have k1 : Kept D W W4 := fun b hd => (kk b (by have := (h.dl b hd).2.1; omega) (h.dl b hd).2.2).trans (hb.block b (h.dl b hd).2.1)
 have k2 : Kept D2 W2 W4 := fun b hd => kk b (hD b hd).2 (fun e => by have := al b e; have := (hD b hd).1; omega)
 have hrl := hE.len hr
 refine ⟨by rw [List.flatten_append]; simpa using ho, (h.rw.mono fun cs x hx => hE.mono hx (fun b hb => .inl hb) k1).app (RowOf.one (hE.mono hr (fun b hb => .inr hb) k2) hrl), fun b hd => ?_, ?_⟩
 ·have h3 : w.heap.size ≤ b ∧ b < W2.heap.size ∧ A.map (·.block) ≠ some b := by
   rcases hd with hd | hd
   ·exact ⟨(h.dl b hd).1, by have := (h.dl b hd).2.1; omega, (h.dl b hd).2.2⟩
   ·exact ⟨by have := (hD b hd).1; omega, (hD b hd).2, fun e => by have := al b e; have := (hD b hd).1; omega⟩
  refine ⟨h3.1, by omega, fun e => ?_⟩
  rcases hat with e2 | e2
  ·exact h3.2.2 (by rw [← e2]; exact e)
  ·rw [e2, World.size_alloc] at e; injection e with e; omega
 ·exact ((h.bl.trans (hb.mono s0)).trans (((Below.refl W2.heap.size W2).alloc (Nat.le_refl _) o).mono (by omega))).trans hb4
end
theorem rd_own {w : World} {base n c : Nat} {A : Option Addr} {xs : List Int} (h : Ow 3 1 w base A n c (ic xs)) : Rd w (fun b => base ≤ b ∧ b < w.heap.size) A n xs := rd_block h fun b e => ⟨(h.blk b e).1, (h.blk b e).2.1⟩

set_option maxRecDepth 100000 in
set_option maxHeartbeats 1000000 in
theorem row_c (A0 : Option Addr) (n0 c0 : Nat) (xss : List (List Int)) (w : World) (h : RdV w (lo w.heap.size) A0 n0 xss) (hh : Hd n0 c0) :
  Calls Tryd.prog 33 #[.slice A0 n0 c0] w fun e w' => ∃ A' n' c', e = .returned (.slice A' n' c') ∧ RdV w' (fun b => w.heap.size ≤ b ∧ b < w'.heap.size) A' n' (cut4 xss) ∧ Hd n' c' ∧ Below w.heap.size w w' := by
 have hmk0 : MkG 23 1 ERow w (w.alloc (.cells #[] 23)) (fun _ => False) (some ⟨w.heap.size, 0, none⟩) 0 0 [] ((xss.take 0).map (·.take 4)) := ⟨Ow.empty _ _ _ _ (Nat.le_refl _), RowOf.nil, (fun b h => h.elim), below_lit _ _ (Below.refl _ _) _⟩
 have HH := Lib.hid h
 have hcapi : n0 ≤ c0 ∧ c0 ≤ 9223372036854775807 := hh
 have hxl : xss.length = n0 := h.len
 have HXL := Lib.hid hxl
 clear h hh hxl
 go_enter Tryd.func33, Tryd.ntmps33
 go_upto_region 3 with fail
 generalize w.alloc (.cells #[] 23) = w1 at *
 go_loopw [3, 4] (fun rv iv wr => ∃ (i : Nat) (D : Nat → Prop) (A : Option Addr) (c : Nat) (css : List (List Value)), i ≤ 3 ∧ i ≤ n0 ∧ iv = .int .i64 i ∧ rv = .slice A i c ∧ MkG 23 1 ERow w wr D A i c css ((xss.take i).map (·.take 4))) (fun _ iv _ => n0 - (intOf iv).toNat)
 case atStart => exact ⟨0, _, _, 0, [], by omega, by omega, rfl, rfl, hmk0⟩
 case round =>
  obtain ⟨i, D, A, c, css, hi3, hin, rfl, rfl, hmk⟩ := hrel
  clear hmk0
  have bwr := hmk.bl
  by_cases hlt : i < n0
  ·by_cases hlt3 : i < 3
   ·obtain ⟨row, hrow⟩ := at_some xss i (by rw [HXL.out]; omega)
    obtain ⟨bf, of', hfa, hbf, hcc⟩ := HH.out.pos (show 0 < n0 by omega)
    change bf < w.heap.size at hbf
    obtain ⟨cs, ⟨R, nr, cr, rfl, hR0, hRd⟩, hcc2⟩ := hcc i row hrow
    have hR := hR0.call bwr
    have x0 := (bwr.cell (p := ⟨bf, of' + i * 1 + 0, none⟩) hbf).trans (hcc2 0 _ rfl)
    rw [Nat.mul_one, Nat.add_zero] at x0
    have hnl := hR.len
    obtain ⟨m, hm⟩ : ∃ m : Nat, m = min nr 4 := ⟨_, rfl⟩
    have ma : min (nr : Int) 4 = (m : Int) := by omega
    have mb : (if (4 : Int) < (nr : Int) then (4 : Int) else (nr : Int)) = (m : Int) := by split <;> omega
    have mz : (0 : Int) ≤ (m : Int) := by omega
    have mc : (m : Int) ≤ (cr : Int) := by have := hRd.1; omega
    have md : cr ≤ 9223372036854775807 := hRd.2
    have m4 : m ≤ 4 := by omega
    have HML := Lib.hid (ic_take_len (k := 4) hnl hm)
    have HMR := Lib.hid fun (W : World) (bW : Below wr.heap.size wr W) => (show 0 < m → ∃ b o, R = some ⟨b, o, none⟩ ∧ ∀ j u, (ic (row.take 4))[j]? = some u → W.cell? ⟨b, o + j, none⟩ = some u from by
     have h1 := (hR.call bW).take m (by rw [hm]; exact Nat.min_le_left _ _)
     have h2 := rd_news (show Rd W (lo W.heap.size) R m (row.take m) from h1)
     rw [take_min row hnl, ← hm]
     exact h2)
    have iz : (0 : Int) ≤ (i : Int) := by omega
    have inn : (i : Int) < (n0 : Int) := by omega
    subst hfa
    have HTK := Lib.hid (show (xss.take (i + 1)).map (·.take 4) = (xss.take i).map (·.take 4) ++ [row.take 4] by rw [List.take_add_one, hrow]; simp)
    have t3 : (i : Int) < 3 := by omega
    have HMK := Lib.hid hmk
    have hbr := bwr.size
    clear hcc hcc2 hrow hnl hm hR hRd hR0 hmk
    go_upto_region 5 with fail
    have HS := Lib.hid fun (W : World) (bW : Below wr.heap.size wr W) => (show W.cell? ⟨bf, of' + i, none⟩ = some (.slice R nr cr) from cell_call x0 bW)
    have bb := Below.refl wr.heap.size wr
    refine wp_region_held_drew (S := fun w' => w'.cell? ⟨bf, of' + i, none⟩ = some (.slice R nr cr)) (by kernel_rfl) ?_ (fun hHeld => ?_)
    ·exact HS.out _ (below_drewN bb 1)
    replace bb := below_drewN bb 1
    change Below _ _ wr.drew at bb
    generalize hw0 : wr.drew = W0 at hHeld bb ⊢
    clear hw0
    refine tkC 0 ?_
    refine tkC 2 ?_
    refine tkC 3 ?_
    refine tkC 4 ?_
    refine tkC 5 ?_
    refine tkC 6 ?_
    refine tkC 7 ?_
    refine tkC 8 ?_
    refine tkC 9 ?_
    refine tkC 10 ?_
    refine tkC 11 ?_
    refine tkC 12 ?_
    refine rd1 1 fun K hK => ?_
    refine wy ?_
    go_simp
    clear hHeld
    refine hK.out _ _ (HS.out _ (below_lit _ _ bb _)) fun hHeld => ?_
    clear hK K
    have er := Ow.empty 3 1 W0 wr.heap.size bb.size
    replace bb := below_lit _ _ bb (.cells #[] 3)
    generalize W0.alloc (.cells #[] 3) = W1 at *
    refine rd1 13 fun K hK => ?_
    clear hHeld
    refine appStep elt_int (by kernel_rfl) _ _ rfl W1 wr.heap.size _ _ _ [] _ _ _ (ic (row.take 4)) (by rfl) (by rfl) er HML.out (HMR.out _ bb) (ic_one _) (by omega) bb.size ?_
    intro Ar cr2 W2 fr hg hb hat
    rw [List.nil_append, Nat.zero_add] at fr
    rw [Nat.zero_add]
    refine hkG hK (HS.out _ (bb.trans hb)) fun hHeld => ?_
    clear hK K
    replace bb := bb.trans hb
    clear er hg hb hat
    refine rd1 14 fun K hK => ?_
    refine wy ?_
    go_simp
    clear hHeld
    refine hK.out _ _ (HS.out _ (below_lit _ _ bb _)) fun hHeld => ?_
    clear hK K
    have how := (HMK.out.ow.call bb).alloc (.cells #[.slice Ar m cr2] 23)
    have hnw := news_new W2 [.slice Ar m cr2] 23
    have hs2 : w.heap.size ≤ (W2.alloc (.cells #[.slice Ar m cr2] 23)).heap.size := by rw [World.size_alloc]; have := bb.size; omega
    have bb3 := below_lit _ _ bb (.cells #[.slice Ar m cr2] 23)
    refine rd1 15 fun K hK => ?_
    clear hHeld
    refine appStep elt_row (by kernel_rfl) _ _ rfl (W2.alloc (.cells #[.slice Ar m cr2] 23)) w.heap.size _ _ _ css.flatten _ 1 1 [.slice Ar m cr2] (by rfl) (by rfl) how rfl hnw (by simp [Value.oneCell']) (by omega) hs2 ?_
    intro A' c' W4 ho4 hg4 hb4 hat4
    have hp := HMK.out.push em_row bb (fun b hb => hb) (show ERow W2 (fun b => wr.heap.size ≤ b ∧ b < W2.heap.size) [.slice Ar m cr2] (row.take 4) from ⟨Ar, m, cr2, rfl, rd_own fr, fr.cap⟩) ho4 hg4 hb4 hat4
    refine hkG hK ((World.cell?_of_block (a := ⟨bf, of' + i, none⟩) (hp.bl.block bf hbf)).trans ((World.cell?_of_block (a := ⟨bf, of' + i, none⟩) (bwr.block bf hbf)).symm.trans x0)) fun hHeld => ?_
    clear hK K
    refine tkC 16 ?_
    refine wpAnyH_done (by kernel_rfl) ?_ _
    go_wp2_with fail
    go_roundw
    case rel => exact ⟨i + 1, _, A', c', _, by omega, by omega, by go_num, rfl, by rw [HTK.out]; exact hp⟩
    case measure => simp [intOf]; omega

   ·have t3 : ¬ (i : Int) < 3 := by omega
    have inn : (i : Int) < (n0 : Int) := by omega
    have htk : xss.take i = xss.take 3 := by rw [show i = 3 by omega]
    rw [htk] at hmk
    have hR := hmk.rd em_row
    have hD := hmk.ow.hd
    have hB := hmk.bl
    clear hmk hcapi hin hi3
    go_wp2
    go_ret
    exact ⟨A, i, c, rfl, hR, hD, hB⟩
  ·have inn : ¬ (i : Int) < (n0 : Int) := by omega
   have htk : xss.take i = xss.take 3 := by rw [List.take_of_length_le (show xss.length ≤ 3 by rw [HXL.out]; omega), List.take_of_length_le (show xss.length ≤ i by rw [HXL.out]; omega)]
   rw [htk] at hmk
   have hR := hmk.rd em_row
   have hD := hmk.ow.hd
   have hB := hmk.bl
   clear hmk hcapi hin hi3
   go_wp2
   go_ret
   exact ⟨A, i, c, rfl, hR, hD, hB⟩


end Go.Proofs.YtgcmedkaadagmaaDoor
