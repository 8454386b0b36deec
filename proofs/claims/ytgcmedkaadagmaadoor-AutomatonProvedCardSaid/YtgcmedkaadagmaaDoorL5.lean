/- Walks: AutomatonMany. -/
import Derived.Test.YtgcmedkaadagmaaDoorTk
import Derived.Test.YtgcmedkaadagmaaDoorL4
import Derived.Test.YtgcmedkaadagmaaDoorP1
namespace Go.Proofs.YtgcmedkaadagmaaDoor
open Go.RowKit Go.Shelf Go.Maps

theorem and65535 (z : Int) : bits .and .i64 z 65535 = z % 65536 := by
 show IntKind.i64.wrap ((BitVec.ofInt 64 z &&& BitVec.ofInt 64 (65535 : Int)).toNat : Int) = _
 have e2 : (BitVec.ofInt 64 (65535 : Int)).toNat = 65535 := by decide
 rw [BitVec.toNat_and, e2, IntKind.wrap_i64]
 have h : (BitVec.ofInt 64 z).toNat &&& 65535 = (BitVec.ofInt 64 z).toNat % 65536 := Nat.and_two_pow_sub_one_eq_mod _ 16
 rw [h, BitVec.toNat_ofInt]
 omega
theorem Ow.empty (e k : Nat) (w : World) (base : Nat) (hb : base ≤ w.heap.size) : Ow e k (w.alloc (.cells #[] e)) base (some ⟨w.heap.size, 0, none⟩) 0 0 [] :=
 ⟨by simp, .inr ⟨w.heap.size, 0, #[], rfl, hb, heap_alloc_new w _, Nat.le_refl _, by unfold maxLen; omega, by simp, by simp⟩⟩
theorem erul_len {w : World} {S : Nat → Prop} : ∀ cs x, ERul w S cs x → cs.length = 6 := fun _ _ ⟨_, _, _, _, _, _, _, _, _, _, _, _, _, _, _, e, _⟩ => by rw [e]; rfl
/-- Rules in the making. -/
structure MkR (w W : World) (B : Nat) (D : Nat → Prop) (A : Option Addr) (n c : Nat) (css : List (List Value)) (rs : List Rul) : Prop where
 ow : Ow 58 6 W B A n c css.flatten
 rw : RowOf 6 (ERul W D) css rs
 dl : ∀ b, D b → b < W.heap.size ∧ A.map (·.block) ≠ some b
 bl : Below w.heap.size w W
section
variable {w W W2 : World} {B : Nat} {D : Nat → Prop} {A : Option Addr} {n c : Nat} {css : List (List Value)} {rs : List Rul}
theorem MkR.call (h : MkR w W B D A n c css rs) (hb : Below W.heap.size W W2) : MkR w W2 B D A n c css rs :=
 ⟨h.ow.call hb, h.rw.mono fun _ _ hx => hx.mono (fun _ h => h) (fun b hd => hb.block b (h.dl b hd).1), fun b hd => ⟨Nat.lt_of_lt_of_le (h.dl b hd).1 hb.size, (h.dl b hd).2⟩, below_call h.bl hb⟩
theorem MkR.rd (h : MkR w W B D A n c css rs) : RdR W (lo W.heap.size) A n rs := h.ow.row (h.rw.mono fun _ _ hx => hx.mono (fun b hd => (h.dl b hd).1) (Kept.refl _ _)) (by omega)
/-- One rule more. -/
theorem MkR.push (h : MkR w W B D A n c css rs) (hb : Below W.heap.size W W2) {D2 : Nat → Prop} (hD : ∀ b, D2 b → W.heap.size ≤ b ∧ b < W2.heap.size) {cs : List Value} {r : Rul} (hr : ERul W2 D2 cs r) {o : Obj} {W4 : World} {A' : Option Addr} {c' : Nat}
  (ho : Ow 58 6 W4 B A' (n + 1) c' (css.flatten ++ cs)) (hg : (W2.alloc o).grownBy W4 (A.map (·.block))) (hb4 : Below B (W2.alloc o) W4) (hat : A'.map (·.block) = A.map (·.block) ∨ A'.map (·.block) = some (W2.alloc o).heap.size) (hB : w.heap.size ≤ B) :
  MkR w W4 B (fun b => D b ∨ D2 b) A' (n + 1) c' (css ++ [cs]) (rs ++ [r]) := by
 have s1 := hb.size
 have s4 := hg.size
 rw [World.size_alloc] at s4
 have al : ∀ b, A.map (·.block) = some b → b < W.heap.size := fun b e => (h.ow.blk b e).2.1
 have kk : ∀ b, b < W2.heap.size → A.map (·.block) ≠ some b → W4.heap[b]? = W2.heap[b]? := fun b h1 h2 => by
  rw [hg.block b (by rw [World.size_alloc]; omega) (fun e => h2 e.symm), Below.heap_alloc W2 o b h1]
 have k1 : Kept D W W4 := fun b hd => (kk b (by have := (h.dl b hd).1; omega) (h.dl b hd).2).trans (hb.block b (h.dl b hd).1)
 have k2 : Kept D2 W2 W4 := fun b hd => kk b (hD b hd).2 (fun e => by have := al b e; have := (hD b hd).1; omega)
 have hrl := erul_len _ _ hr
 refine ⟨by rw [List.flatten_append]; simpa using ho, (h.rw.mono fun cs x hx => hx.mono (fun b hb => .inl hb) k1).app (RowOf.one (hr.mono (fun b hb => .inr hb) k2) hrl), fun b hd => ?_, ?_⟩
 ·have h3 : b < W2.heap.size ∧ A.map (·.block) ≠ some b := by
   rcases hd with hd | hd
   ·exact ⟨by have := (h.dl b hd).1; omega, (h.dl b hd).2⟩
   ·exact ⟨(hD b hd).2, fun e => by have := al b e; have := (hD b hd).1; omega⟩
  refine ⟨by omega, fun e => ?_⟩
  rcases hat with e2 | e2
  ·exact h3.2 (by rw [← e2]; exact e)
  ·rw [e2, World.size_alloc] at e; injection e with e; omega
 ·exact ((below_call h.bl hb).trans (((Below.refl W2.heap.size W2).alloc (Nat.le_refl _) o).mono (by have := h.bl.size; omega))).trans (hb4.mono hB)
end

set_option maxRecDepth 100000 in
set_option maxHeartbeats 4000000 in
theorem automatonMany_walk (a0 : Int) (w : World) (hT : Tab w) : Calls Tryd.prog 7 #[.int .i64 a0] w fun e w' => e = .returned (.bool true) ∧ Below w.heap.size w w' := by
 have hTp := hT.pos
 have HSH := Lib.hid (shown_c w hT)
 have HT := Lib.hid fun (W : World) (bW : Below w.heap.size w W) => hT.call bW hTp
 clear hT
 obtain ⟨m, hm⟩ : ∃ m : Nat, a0 % 65536 = (m : Int) := ⟨(a0 % 65536).toNat, by omega⟩
 have e1 : bits .and .i64 a0 65535 = (m : Int) := by rw [and65535]; exact hm
 obtain ⟨k, hk⟩ : ∃ k : Nat, m % 80 = k := ⟨_, rfl⟩
 have hk80 : k < 80 := by omega
 have e2 : (m : Int).tmod 80 = (k : Int) := by rw [Int.tmod_eq_emod_of_nonneg (by omega)]; omega
 obtain ⟨n, hn⟩ : ∃ n : Nat, k + 1 = n := ⟨_, rfl⟩
 have e3 : (1 : Int) + (k : Int) = (n : Int) := by omega
 have e4 : (k : Int) + 1 = (n : Int) := by omega
 have hn1 : 1 ≤ n := by omega
 have hn80 : n ≤ 80 := by omega
 have hkn : k < n := by omega
 clear hm hk
 go_enter Tryd.func7, Tryd.ntmps7
 go_wp2_with fail
 refine HSH.out.mono ?_
 rintro e w1 ⟨rfl, bw1⟩
 clear HSH
 go_upto_region 5 with fail
 clear e1 e2 e3 e4
 have hmk0 : MkR w (w1.alloc (.cells #[] 58)) w1.heap.size (fun _ => False) (some ⟨w1.heap.size, 0, none⟩) 0 0 [] (manyR 0) := ⟨Ow.empty _ _ _ _ (Nat.le_refl _), RowOf.nil, (fun b h => h.elim), below_lit _ _ bw1 _⟩
 generalize hgB : w1.heap.size = B0 at *
 have hBw : w.heap.size ≤ B0 := by have := bw1.size; omega
 generalize w1.alloc (.cells #[] 58) = w2 at *
 clear hgB bw1
 go_loopw [4, 5] (fun rv iv wr => ∃ (i : Nat) (D : Nat → Prop) (A : Option Addr) (c : Nat) (css : List (List Value)), i ≤ n ∧ iv = .int .i64 i ∧ rv = .slice A i c ∧ MkR w wr B0 D A i c css (manyR i) ∧ B0 ≤ wr.heap.size) (fun _ iv _ => n - (intOf iv).toNat)
 case atStart => exact ⟨0, _, _, 0, [], by omega, rfl, rfl, hmk0, by have := hmk0.ow.lt _ _ _ rfl; omega⟩
 case round =>
  obtain ⟨i, D, A, c, css, hi, rfl, rfl, hmk, hB0⟩ := hrel
  clear hmk0
  by_cases hlt : i < n
  ·have hk1 := (Bk.new wr 3 #[.int .i64 i]).alloc (.cells #[.slice (some ⟨wr.heap.size, 0, none⟩) 1 1] 23)
   have hk2 := Bk.new (wr.alloc (.cells #[.int .i64 i] 3)) 23 #[.slice (some ⟨wr.heap.size, 0, none⟩) 1 1]
   rw [World.size_alloc] at hk2
   have hbb : Below wr.heap.size wr ((wr.alloc (.cells #[.int .i64 i] 3)).alloc (.cells #[.slice (some ⟨wr.heap.size, 0, none⟩) 1 1] 23)) := below_lit _ _ (below_lit _ _ (Below.refl _ _) _) _
   have hr1 : Rd ((wr.alloc (.cells #[.int .i64 i] 3)).alloc (.cells #[.slice (some ⟨wr.heap.size, 0, none⟩) 1 1] 23)) (fun b => b = wr.heap.size ∨ b = wr.heap.size + 1) (some ⟨wr.heap.size, 0, none⟩) 1 [(i : Int)] := by
    refine ⟨rfl, fun _ => ⟨_, 0, rfl, .inl rfl, fun q x hx => ?_⟩⟩
    match q, hx with
    | 0, hx => injection hx with hx; subst hx; exact ⟨_, rfl, fun j v hv => by match j, hv with | 0, hv => exact box_cells hk1 0 hv⟩
   have hr2 : ERul ((wr.alloc (.cells #[.int .i64 i] 3)).alloc (.cells #[.slice (some ⟨wr.heap.size, 0, none⟩) 1 1] 23)) (fun b => b = wr.heap.size ∨ b = wr.heap.size + 1) [.slice none 0 0, .slice (some ⟨wr.heap.size + 1, 0, none⟩) 1 1, .slice none 0 0, .slice none 0 0, .slice none 0 0, .int .i64 0] (manyO i) := by
    refine ⟨none, 0, 0, _, 1, 1, none, 0, 0, none, 0, 0, none, 0, 0, rfl, SlE.nil, ⟨rfl, fun _ => ⟨_, 0, rfl, .inr rfl, fun q x hx => ?_⟩⟩, SlE.nil, SlE.nil, SlE.nil, hd_le (by omega), hd_le (by omega), hd_le (by omega), hd_le (by omega), hd_le (by omega)⟩
    match q, hx with
    | 0, hx => injection hx with hx; subst hx; exact ⟨_, ⟨_, 1, 1, rfl, hr1, hd_le (by omega)⟩, fun j v hv => by match j, hv with | 0, hv => exact box_cells hk2 0 hv⟩
   have HMK := Lib.hid hmk; have HR2 := Lib.hid hr2; have HBB := Lib.hid hbb
   have HOW := Lib.hid ((hmk.ow.call hbb).alloc (.cells #[.slice none 0 0, .slice (some ⟨wr.heap.size + 1, 0, none⟩) 1 1, .slice none 0 0, .slice none 0 0, .slice none 0 0, .int .i64 0] 58))
   have hnw := news_new ((wr.alloc (.cells #[.int .i64 i] 3)).alloc (.cells #[.slice (some ⟨wr.heap.size, 0, none⟩) 1 1] 23)) [.slice none 0 0, .slice (some ⟨wr.heap.size + 1, 0, none⟩) 1 1, .slice none 0 0, .slice none 0 0, .slice none 0 0, .int .i64 0] 58
   rw [World.size_alloc, World.size_alloc] at hnw
   have HNW := Lib.hid hnw
   clear hmk hk1 hk2 hr1 hr2 hbb hnw
   go_wp2_with (at_builtin; refine appP elt_rule rfl _ _ rfl (((wr.alloc (.cells #[.int .i64 i] 3)).alloc (.cells #[.slice (some ⟨wr.heap.size, 0, none⟩) 1 1] 23)).alloc (.cells #[.slice none 0 0, .slice (some ⟨wr.heap.size + 1, 0, none⟩) 1 1, .slice none 0 0, .slice none 0 0, .slice none 0 0, .int .i64 0] 58)) B0 _ _ _ css.flatten _ 1 1 [.slice none 0 0, .slice (some ⟨wr.heap.size + 1, 0, none⟩) 1 1, .slice none 0 0, .slice none 0 0, .slice none 0 0, .int .i64 0] (by rfl) (by rfl) HOW.out rfl HNW.out (by simp [Value.oneCell']) (by omega) (by simp only [World.size_alloc]; omega) ?_; intro A' c' w6 ho6 hg6 hb6 hat6)
   have hp := HMK.out.push HBB.out (fun b hb => by simp only [World.size_alloc]; omega) HR2.out ho6 hg6 hb6 hat6 hBw
   have hs6 := hg6.size
   simp only [World.size_alloc] at hs6
   go_roundw
   case rel => exact ⟨i + 1, _, A', c', _, by omega, by go_num, rfl, by rw [many_succ]; exact hp, by omega⟩
   case measure => simp [intOf]; omega
  ·have hie : i = n := by omega
   subst hie
   have hR := hmk.rd
   have bw2 := hmk.bl
   have hq := hmk.ow.cap
   clear hmk hlt hi
   have HRN := Lib.hid hR
   have HF1 := Lib.hid (font_c i A i c (manyR i) wr hR hq (by omega))
   have HQ := Lib.hid hq
   clear hR hq hB0
   go_wp2_with fail
   refine HF1.out.mono ?_
   rintro e w3 ⟨f, rfl, hF, hb3⟩
   have bw3 := below_call bw2 hb3
   have HRN3 := Lib.hid (HRN.out.call hb3)
   have hsm : ∀ lk, lkAt (fontF i (manyR i)) 0 = some lk → lk.rules.length ≤ 64 → SmB lk.rules := fun lk h hl => by
    rw [fontF_lk, if_pos rfl] at h
    injection h with h; subst h
    dsimp only at hl ⊢
    rw [many_len] at hl
    exact many_sm hl
   have HB1 := Lib.hid (build_c f (fontF i (manyR i)) 0 w3 hF hsm)
   have HSM := Lib.hid hsm
   unfold FV.cells at HB1
   clear HF1 hF hb3 bw2 hsm HRN
   go_wp2_with fail
   refine HB1.out.mono ?_
   rintro e w4 ⟨hb4, hm4⟩
   have bw4 := below_call bw3 hb4
   have HRN4 := Lib.hid (HRN3.out.call hb4)
   have hbl : buildL (fontF i (manyR i)) 0 = (if 64 < i then ((none, 2) : Option Au × Int) else match autoL (manyR i) i with | some a => (some a, 0) | none => (none, 2)) := by
    unfold buildL
    rw [fontF_lk, if_pos rfl]
    dsimp only
    rw [fontF_len, if_neg (by omega), many_len]
    rfl
   rw [hbl] at hm4
   have hb0 : buildL (fontF 0 (manyR i)) 0 = (none, 1) := by
    unfold buildL
    rw [fontF_lk, if_pos rfl]
    dsimp only
    rw [fontF_len, if_pos (.inl rfl)]
   have HB0 := Lib.hid hb0; have HBL := Lib.hid hbl
   clear hbl hb0 hb4 HB1 bw3 HRN3
   by_cases hbig : 64 < i
   ·rw [if_pos hbig] at hm4
    subst hm4
    have bA := below_lit _ _ bw4 (.cells #[.slice none 0 0, .slice none 0 0, .slice none 0 0, .slice none 0 0, .slice none 0 0] 38)
    have b45 : Below w4.heap.size w4 (w4.alloc (.cells #[.slice none 0 0, .slice none 0 0, .slice none 0 0, .slice none 0 0, .slice none 0 0] 38)) := (Below.refl _ _).alloc (Nat.le_refl _) _
    have kA := Bk.new w4 38 #[.slice none 0 0, .slice none 0 0, .slice none 0 0, .slice none 0 0, .slice none 0 0]
    have HRN5 := Lib.hid (HRN4.out.call b45)
    clear b45 bw4 HRN4
    have HF2 := Lib.hid (font_c 0 A i c (manyR i) _ HRN5.out HQ.out (by omega))
    obtain ⟨gA, hgA⟩ : ∃ g, w4.heap.size = g := ⟨_, rfl⟩
    rw [hgA] at kA
    go_wp2_with fail
    refine HF2.out.mono ?_
    rintro e w6 ⟨f0, rfl, hF0, hb6⟩
    have bw6 := below_call bA hb6
    have kA6 := kA.below hb6 kA.lt
    have HRN6 := Lib.hid (HRN5.out.call hb6)
    have HB2 := Lib.hid (build_c f0 (fontF 0 (manyR i)) 0 w6 hF0 (fun lk h hl => by
     rw [fontF_lk, if_pos rfl] at h
     injection h with h; subst h
     dsimp only at hl ⊢
     rw [many_len] at hl
     exact many_sm hl))
    unfold FV.cells at HB2
    clear HF2 hF0 hb6 bA kA hgA HRN5
    go_wp2_with fail
    refine HB2.out.mono ?_
    rintro e w7 ⟨hb7, hm7⟩
    rw [HB0.out] at hm7
    subst hm7
    have bw7 := below_call bw6 hb7
    have kA7 := kA6.below hb7 kA6.lt
    have HRN7 := Lib.hid (HRN6.out.call hb7)
    have b78 : Below w7.heap.size w7 (w7.alloc (.cells #[.slice none 0 0, .slice none 0 0, .slice none 0 0, .slice none 0 0, .slice none 0 0] 38)) := (Below.refl _ _).alloc (Nat.le_refl _) _
    have bw8 := below_call bw7 b78
    have kA8 := kA7.below b78 kA7.lt
    have HRN8 := Lib.hid (HRN7.out.call b78)
    clear HB2 hb7 bw6 kA6 bw7 kA7 b78 HRN6 HRN7
    have t64 : decide ((64 : Int) < (i : Int)) = true := by simp; omega
    have t64' : decide (64 < i) = true := by simp; omega
    have HF3 := Lib.hid fun (W : World) (h : RdR W (lo W.heap.size) A i (manyR i)) => font_c i A i c (manyR i) W h HQ.out (by omega)
    have HDO := Lib.hid fun (W : World) (f : FV) (h : IsF W (lo W.heap.size) f (fontF i (manyR i))) => (does_c f (fontF i (manyR i)) 0 ⟨none, 0, 0, none, 0, 0, none, 0, 0, none, 0, 0, none, 0, 0⟩ ⟨[], [], [], [], []⟩ W h HSM.out ⟨⟨SlE.nil, SlE.nil, SlE.nil, hd_le (n := 0) (c := 0) (by omega), hd_le (n := 0) (c := 0) (by omega), hd_le (n := 0) (c := 0) (by omega)⟩, ⟨SlE.nil, SlE.nil, SlE.nil, hd_le (n := 0) (c := 0) (by omega), hd_le (n := 0) (c := 0) (by omega), hd_le (n := 0) (c := 0) (by omega)⟩⟩ (by simp) (by simp)).mono fun e w' (q : Below _ _ w' ∧ ∃ b : Bool, e = .returned (.bool b) ∧ (b = true ↔ _)) => (show e = .returned (.bool false) ∧ Below W.heap.size W w' from ⟨(by
     obtain ⟨_, b, h1, h2⟩ := q
     rw [h1]
     cases b with
     | false => rfl
     | true =>
      obtain ⟨_, _, _, _, h4, _⟩ := h2.1 rfl
      rw [HBL.out, if_pos hbig] at h4
      injection h4 with h4; cases h4), q.1⟩)
    unfold FV.cells AV.cells at HDO
    go_upto_region 13 with fail
    generalize w7.alloc (.cells #[.slice none 0 0, .slice none 0 0, .slice none 0 0, .slice none 0 0, .slice none 0 0] 38) = w8 at *
    have gA0 := gA
    clear gA0
    have kz0 := kA8
    have HS := Lib.hid fun (W : World) (bW : Below w8.heap.size w8 W) => (show W.cell? ⟨gA, 0, none⟩ = some (.slice none 0 0) ∧ W.cell? ⟨gA, 1, none⟩ = some (.slice none 0 0) ∧ W.cell? ⟨gA, 2, none⟩ = some (.slice none 0 0) ∧ W.cell? ⟨gA, 3, none⟩ = some (.slice none 0 0) ∧ W.cell? ⟨gA, 4, none⟩ = some (.slice none 0 0) from by
      have k := kA8.below bW kA8.lt
      exact ⟨box_cells k 0 rfl, box_cells k 1 rfl, box_cells k 2 rfl, box_cells k 3 rfl, box_cells k 4 rfl⟩)
    have bb := Below.refl w8.heap.size w8
    refine wp_region_held_drew (S := fun w' => w'.cell? ⟨gA, 0, none⟩ = some (.slice none 0 0) ∧ w'.cell? ⟨gA, 1, none⟩ = some (.slice none 0 0) ∧ w'.cell? ⟨gA, 2, none⟩ = some (.slice none 0 0) ∧ w'.cell? ⟨gA, 3, none⟩ = some (.slice none 0 0) ∧ w'.cell? ⟨gA, 4, none⟩ = some (.slice none 0 0)) (by kernel_rfl) ?_ (fun hHeld => ?_)
    ·exact HS.out _ (below_drewN bb 1)
    replace bb := below_drewN bb 1
    change Below _ _ w8.drew at bb
    generalize hw0 : w8.drew = W0 at hHeld bb ⊢
    clear hw0
    refine tkC 0 ?_
    refine tkC 1 ?_
    refine tkC 2 ?_
    refine tkC 3 ?_
    refine tkC 4 ?_
    refine tkC 5 ?_
    refine tkC 6 ?_
    refine tkC 7 ?_
    refine tkC 8 ?_
    refine tkC 9 ?_
    refine tkC 10 ?_
    refine tkC 11 ?_
    refine tkC 12 ?_
    refine tkC 13 ?_
    refine tkC 15 ?_
    refine rd1 14 fun K hK => ?_
    refine wy ?_
    go_simp
    clear hHeld
    go_at_call 25
    (with_reducible refine (HF3.out _ (HRN8.out.call bb)).mono ?_)
    rintro e W1 ⟨f9, rfl, hF9, bn⟩
    go_wp2_with fail
    refine hK.out _ _ (HS.out _ (bb.trans (bn.mono bb.size))) fun hHeld => ?_
    clear hK K
    have HD := Lib.hid (HDO.out W1 f9 hF9)
    replace bb := bb.trans (bn.mono bb.size)
    clear bn hF9
    refine rd1 16 fun K hK => ?_
    refine wy ?_
    go_simp
    clear hHeld
    go_at_call 16
    (with_reducible refine HD.out.mono ?_)
    rintro e W2 ⟨rfl, bn⟩
    go_wp2_with fail
    refine hK.out _ _ (HS.out _ (bb.trans (bn.mono bb.size))) fun hHeld => ?_
    clear hK K
    replace bb := bb.trans (bn.mono bb.size)
    clear bn
    refine tkC 17 ?_
    refine tkC 18 ?_
    refine tkC 19 ?_
    refine wpAnyH_done (by kernel_rfl) ?_ _
    go_wp2
    go_ret
    exact ⟨rfl, bw8.trans (bb.mono bw8.size)⟩
   ·rw [if_neg hbig] at hm4
    obtain ⟨a, ha, hal⟩ := many_auto (n := i) (by omega)
    rw [ha] at hm4
    obtain ⟨v, rfl, hA4⟩ := hm4
    have hfn : v.fn = i + 1 := by have h1 := hA4.1.t.len; change a.fore.length = v.fn at h1; omega
    obtain ⟨vca, vcn, vcc, vfa, vfn, vfc, vba, vbn, vbc, vea, ven, vec, vga, vgn, vgc⟩ := v
    dsimp only at hfn
    subst hfn
    unfold AV.cells at *
    dsimp only at *
    have HSAY := Lib.hid (fun (x : Nat) (l : List Int) (hx : x < i) (hl : ∀ y ∈ l, 0 ≤ y ∧ y < (i : Int)) => built_says ha ((x : Int) :: l) (fun y hy => by
     rcases List.mem_cons.1 hy with rfl | hy
     ·omega
     ·exact hl y hy))
    have HSAY0 := Lib.hid (built_says ha [] (by simp))
    have b45 : Below w4.heap.size w4 (w4.alloc (.cells #[.slice vca vcn vcc, .slice vfa (i + 1) vfc, .slice vba vbn vbc, .slice vea ven vec, .slice vga vgn vgc] 38)) := (Below.refl _ _).alloc (Nat.le_refl _) _
    have bA := below_call bw4 b45
    have kA := Bk.new w4 38 #[.slice vca vcn vcc, .slice vfa (i + 1) vfc, .slice vba vbn vbc, .slice vea ven vec, .slice vga vgn vgc]
    have hA5 := hA4.call b45
    have HRN5 := Lib.hid (HRN4.out.call b45)
    clear b45 bw4 HRN4 ha hA4
    have HF2 := Lib.hid (font_c 0 A i c (manyR i) _ HRN5.out HQ.out (by omega))
    obtain ⟨gA, hgA⟩ : ∃ g, w4.heap.size = g := ⟨_, rfl⟩
    rw [hgA] at kA
    go_wp2_with fail
    refine HF2.out.mono ?_
    rintro e w6 ⟨f0, rfl, hF0, hb6⟩
    have bw6 := below_call bA hb6
    have kA6 := kA.below hb6 kA.lt
    have hA6 := hA5.call hb6
    have HB2 := Lib.hid (build_c f0 (fontF 0 (manyR i)) 0 w6 hF0 (fun lk h hl => by
     rw [fontF_lk, if_pos rfl] at h
     injection h with h; subst h
     dsimp only at hl ⊢
     rw [many_len] at hl
     exact many_sm hl))
    unfold FV.cells at HB2
    clear HF2 hF0 hb6 bA kA hgA HRN5 hA5
    go_wp2_with fail
    refine HB2.out.mono ?_
    rintro e w7 ⟨hb7, hm7⟩
    rw [HB0.out] at hm7
    subst hm7
    have bw7 := below_call bw6 hb7
    have kA7 := kA6.below hb7 kA6.lt
    have hA7 := hA6.call hb7
    have b78 : Below w7.heap.size w7 (w7.alloc (.cells #[.slice none 0 0, .slice none 0 0, .slice none 0 0, .slice none 0 0, .slice none 0 0] 38)) := (Below.refl _ _).alloc (Nat.le_refl _) _
    have bw8 := below_call bw7 b78
    have kA8 := kA7.below b78 kA7.lt
    have hA8 := hA7.call b78
    clear HB2 hb7 bw6 kA6 bw7 kA7 b78 hA6 hA7
    have t64 : decide ((64 : Int) < (i : Int)) = false := by simp; omega
    have t64' : decide (64 < i) = false := by simp; omega
    have hi64 : i ≤ 64 := by omega
    have z0 := box_cells kA8 0 rfl
    have z1 := box_cells kA8 1 rfl
    have z2 := box_cells kA8 2 rfl
    have z3 := box_cells kA8 3 rfl
    have z4 := box_cells kA8 4 rfl
    go_upto_region 17 with fail
    clear z0 z1 z2 z3 z4
    generalize w7.alloc (.cells #[.slice none 0 0, .slice none 0 0, .slice none 0 0, .slice none 0 0, .slice none 0 0] 38) = w8 at *
    go_loopw [10] (fun iv wr => ∃ j : Nat, j ≤ i ∧ iv = .int .i64 j ∧ Below w.heap.size w wr ∧ Bk wr gA 38 #[.slice vca vcn vcc, .slice vfa (i + 1) vfc, .slice vba vbn vbc, .slice vea ven vec, .slice vga vgn vgc] ∧ IsA wr (lo wr.heap.size) ⟨vca, vcn, vcc, vfa, i + 1, vfc, vba, vbn, vbc, vea, ven, vec, vga, vgn, vgc⟩ a) (fun iv _ => i - (intOf iv).toNat)
    case atStart => exact ⟨0, by omega, rfl, bw8, kA8, hA8⟩
    case round =>
     obtain ⟨j, hj, rfl, bwr, kr, hAr⟩ := hrel
     clear bw8 kA8 hA8
     have z0 := box_cells kr 0 rfl
     have z1 := box_cells kr 1 rfl
     have z2 := box_cells kr 2 rfl
     have z3 := box_cells kr 3 rfl
     have z4 := box_cells kr 4 rfl
     by_cases hlt : j < i
     ·have b1 : Below wr.heap.size wr (wr.alloc (.cells #[.int .i64 j] 3)) := (Below.refl _ _).alloc (Nat.le_refl _) _
      have rl := rd_bk (n := 1) (Bk.new wr 3 #[.int .i64 j]) [(j : Int)] rfl rfl
      have hA1 := hAr.call b1
      have k1 := kr.below b1 kr.lt
      have bw1 := below_call bwr b1
      have hj64 : j < 64 := by omega
      have hsh := shl_one hj64
      have hsh' := shl_one' hj64
      have HFO := Lib.hid ((Fore_c _ a _ 1 1 [(j : Int)] _ hA1 rl (by omega)).mono fun e w' (q : e = _ ∧ _) => (show e = .returned (.int .u64 ((2 ^ j : Nat) : Int)) ∧ Below _ _ w' from ⟨q.1.trans (by rw [(HSAY.out j [] hlt (by simp)).1, many_begins [] hlt]), q.2⟩))
      unfold AV.cells at HFO
      dsimp only at HFO
      clear rl b1 hAr kr bwr
      go_wp2_with fail
      refine HFO.out.mono ?_
      rintro e w9 ⟨rfl, hb9⟩
      have hA9 := hA1.call hb9
      have k9 := k1.below hb9 k1.lt
      have bw9 := below_call bw1 hb9
      clear HFO hA1 k1 bw1 hb9 z0 z1 z2 z3 z4
      have b2 : Below w9.heap.size w9 (w9.alloc (.cells #[.int .i64 j, .int .i64 0] 3)) := (Below.refl _ _).alloc (Nat.le_refl _) _
      have rl := rd_bk (n := 2) (Bk.new w9 3 #[.int .i64 j, .int .i64 0]) [(j : Int), 0] rfl rfl
      have hA10 := hA9.call b2
      have k10 := k9.below b2 k9.lt
      have bw10 := below_call bw9 b2
      have HFI := Lib.hid ((First_c _ a none _ 0 0 2 2 [] [(j : Int), 0] _ hA10 SlE.nil rl (by omega) (by omega) (HT.out _ bw10)).mono fun e w' (q : e = _ ∧ _) => (show e = .returned (.int .i64 (j : Int)) ∧ Below _ _ w' from ⟨q.1.trans (by rw [(HSAY.out j [0] hlt (by simp; omega)).1, HSAY0.out.2, many_first hlt hi64 [0]]), q.2⟩))
      unfold AV.cells at HFI
      dsimp only at HFI
      have z0 := box_cells k9 0 rfl
      have z1 := box_cells k9 1 rfl
      have z2 := box_cells k9 2 rfl
      have z3 := box_cells k9 3 rfl
      have z4 := box_cells k9 4 rfl
      clear rl b2 hA9
      go_wp2_with fail
      refine HFI.out.mono ?_
      rintro e w11 ⟨rfl, hb11⟩
      have hA11 := hA10.call hb11
      have k11 := k10.below hb11 k10.lt
      have bw11 := below_call bw10 hb11
      clear HFI hA10 k10 bw10 hb11 z0 z1 z2 z3 z4 k9 bw9
      go_wp2
      go_roundw
      case rel => exact ⟨j + 1, by omega, by go_num, bw11, k11, hA11⟩
      case measure => simp [intOf]; omega
     ·go_wp2
      go_ret
      exact ⟨rfl, bwr⟩


end Go.Proofs.YtgcmedkaadagmaaDoor
