/- Walks: level. -/
import Derived.Test.YtgcmedkaadagmaaDoorTk
import Derived.Test.YtgcmedkaadagmaaDoorV7
import Derived.Test.YtgcmedkaadagmaaDoorRw
namespace Go.Proofs.YtgcmedkaadagmaaDoor
open Go.RowKit Go.Shelf

/-- What comes of a step with the rows. -/
def LvPost (W : World) (B : Nat) (D : Nat → Prop) (P : Nat) (r : WV) (rows : List (List (List Int))) (cls : List Int) (la : Option Addr) (ln : Nat) (met : Nat) (W' : World) (D' : Nat → Prop) (la' : Option Addr) (ln' lc' : Nat) : Prop :=
 RO W' B D' P r rows cls la' ln' lc' ∧ Stp W W' B D D' P la la' ∧ ln ≤ ln' ∧ ln' ≤ max ln (met + 1)

set_option maxRecDepth 100000 in
set_option maxHeartbeats 2000000 in
theorem level_c (B : Nat) (D : Nat → Prop) (P : Nat) (r : WV) (rows : List (List (List Int))) (cls : List Int) (la : Option Addr) (ln lc met : Nat) (w : World) (h : RO w B D P r rows cls la ln lc) (hB : B ≤ w.heap.size) (hG : GlyOK cls r.K) (hn : rows.length ≤ 64) (hK : r.K ≤ 65536) (hm : met ≤ 900000) :
  Calls Tryd.prog 86 #[.pointer (some ⟨P, 0, none⟩), .int .i64 (met : Int)] w fun e w' => ∃ (nb : Nat) (D' : Nat → Prop) (la' : Option Addr) (ln' lc' : Nat), e = .returned (.agg #[.slice (some ⟨nb, 0, none⟩) r.K r.K, .int .u64 (endsM rows met : Int)]) ∧ RdU w' D' (some ⟨nb, 0, none⟩) r.K (nxL rows cls r.K met) ∧ LvPost w B D P r rows cls la ln met w' D' la' ln' lc' := by
 have b1 : Below w.heap.size w (w.alloc (.cells #[.slice none 0 0, .int .u64 0] 205)) := (Below.refl _ _).alloc (Nat.le_refl _) _
 have h1 := h.call b1
 have k1 := Bk.new w 205 #[.slice none 0 0, .int .u64 0]
 have s1 : Stp w (w.alloc (.cells #[.slice none 0 0, .int .u64 0] 205)) B D D P la la := ⟨b1.mono hB, fun b hb => b1.block b (h.dl b hb), fun _ h => h, fun _ h => .inl h, fun b hb _ _ => b1.block b hb, fun _ h => .inl h⟩
 have nw : ∀ b, D b ∨ b = P ∨ la.map (·.block) = some b → b ≠ w.heap.size := fun b hb e => by
  rcases hb with hb | hb | hb
  ·have := h.dl b hb; omega
  ·have := h.lt; omega
  ·have := (h.ltl b hb).1; omega
 go_enter Tryd.func86, Tryd.ntmps86
 go_wp2
 generalize w.alloc (.cells #[.slice none 0 0, .int .u64 0] 205) = w1 at *
 go_loopw [] (fun wr => ∃ (D' : Nat → Prop) (la' : Option Addr) (ln' lc' : Nat), RO wr B D' P r rows cls la' ln' lc' ∧ Stp w wr B D D' P la la' ∧ ln ≤ ln' ∧ ln' ≤ max ln (met + 1) ∧ Bk wr w.heap.size 205 #[.slice none 0 0, .int .u64 0] ∧ (∀ b, D' b ∨ b = P ∨ la'.map (·.block) = some b → b ≠ w.heap.size)) (fun wr => match wr.cell? ⟨P, 4, none⟩ with | some (.slice _ n _) => met + 1 - n | _ => 0)
 case atStart => exact ⟨D, la, ln, lc, h1, s1, Nat.le_refl _, by omega, k1, nw⟩
 case round =>
  obtain ⟨D', la', ln', lc', hr, hs, hl1, hl2, hk, hne⟩ := hrel
  clear h1 s1 k1 nw b1
  have p4 : wr.cell? ⟨P, 4, none⟩ = some (.slice la' ln' lc') := hr.hP.cell 4
  by_cases hle : ln' ≤ met
  ·have t0 : (ln' : Int) ≤ (met : Int) := by omega
   obtain ⟨css, hcs1, hcs2, hcs3, hcs4⟩ := hr.lv
   have b00 : Below wr.heap.size wr wr.drew := below_drewN (Below.refl _ _) 1
   have hBw : B ≤ wr.heap.size := Nat.le_trans hB hs.bl.size
   have HM := Lib.hid (makeLevel_c P r la' ln' lc' ln' rows cls wr.drew (hr.call b00).hP ((hr.call b00).iw.mono (fun b hb => (hr.call b00).dl b hb) (Kept.refl _ _)) hG hn hK (by omega))
   have q4 : wr.drew.cell? ⟨P, 4, none⟩ = some (.slice la' ln' lc') := p4
   go_wp2
   refine wp_region_held_drew (S := fun _ => True) (by kernel_rfl) trivial (fun _ => ?_)
   have b0 : Below wr.heap.size wr wr.drew := below_drewN (Below.refl _ _) 1
   change Below _ _ wr.drew at b0
   generalize wr.drew = W0 at *
   refine tkC 0 ?_
   refine tkC 1 ?_
   refine tkC 2 ?_
   refine tkC 3 ?_
   refine tkC 5 ?_
   refine tkC 6 ?_
   refine tkC 7 ?_
   refine tkC 8 ?_
   refine rd2 4 9 (fun K hK => ?_) (fun K hK => ?_)
   ·refine wy ?_
    go_simp
    refine hK.out _ _ trivial (fun _ => ?_)
    clear hK K
    try conv => arg 8; simp only [Act.put, List.setIfInBounds_toArray, List.set_cons_zero, List.set_cons_succ]
    refine rd1 9 fun K hK => ?_
    refine wy ?_
    go_simp
    refine hK.out _ _ trivial (fun _ => ?_)
    clear hK K
    try conv => arg 8; simp only [Act.put, List.setIfInBounds_toArray, List.set_cons_zero, List.set_cons_succ]
    refine tkC 10 ?_
    refine rd1 11 fun K hK => ?_
    refine wy ?_
    go_simp
    go_at_call 95
    (with_reducible refine HM.out.mono ?_)
    rintro e w2 ⟨rfl, ho2, hb2⟩
    have x4 : w2.cell? ⟨P, 4, none⟩ = some (.slice la' ln' lc') := ((hr.call b0).hP.below hb2 (hr.call b0).lt).cell 4
    go_wp2_with fail
    refine hK.out _ _ trivial (fun _ => ?_)
    clear hK K
    try conv => arg 8; simp only [Act.put, List.setIfInBounds_toArray, List.set_cons_zero, List.set_cons_succ]
    refine rd1 12 fun K hK => ?_
    refine wy ?_
    go_simp
    refine hK.out _ _ trivial (fun _ => ?_)
    clear hK K
    try conv => arg 8; simp only [Act.put, List.setIfInBounds_toArray, List.set_cons_zero, List.set_cons_succ]
    have b3 : Below w2.heap.size w2 (w2.alloc (.cells #[.slice (some ⟨W0.heap.size + 1, 0, none⟩) r.K r.K, .int .u64 (endsM rows ln' : Int)] 205)) := (Below.refl _ _).alloc (Nat.le_refl _) _
    have x4' : (w2.alloc (.cells #[.slice (some ⟨W0.heap.size + 1, 0, none⟩) r.K r.K, .int .u64 (endsM rows ln' : Int)] 205)).cell? ⟨P, 4, none⟩ = some (.slice la' ln' lc') := cell_alloc x4 _
    refine rd1 13 fun K hK => ?_
    refine appStep elt_level (by kernel_rfl) _ _ rfl _ B _ _ _ css.flatten _ 1 1 [.slice (some ⟨W0.heap.size + 1, 0, none⟩) r.K r.K, .int .u64 (endsM rows ln' : Int)] (by rfl) (by rfl) (((hcs1.call b0).call hb2).call b3) rfl (news_new w2 _ 205) (by simp [Value.oneCell']) (by omega) (by have := hb2.size; have := b0.size; have := b3.size; omega) ?_
    intro la2 lc2 w4 ho4 hg4 _ hat4
    refine hK.out _ _ trivial (fun _ => ?_)
    clear hK K
    try conv => arg 8; simp only [Act.put, List.setIfInBounds_toArray, List.set_cons_zero, List.set_cons_succ]
    have hPP : some P ≠ la'.map (·.block) := fun e => (hr.ltl P e.symm).2.2 rfl
    have HZ : Bk w4 P 150 (r.cells la' ln' lc') ∧ True := ⟨(((hr.call b0).hP.below hb2 (hr.call b0).lt).alloc _).grown hg4 hPP, trivial⟩
    refine tkC 14 ?_
    refine tkC 15 ?_
    refine rd1 16 fun K hK => ?_
    refine wy ?_
    have z4 : w4.cell? ⟨P, 4, none⟩ = some (.slice la' ln' lc') := HZ.1.cell 4
    have zf : w4.frozen? ⟨P, 4, none⟩ = false := HZ.1.frozen 4
    go_simp
    refine hK.out _ _ trivial (fun _ => ?_)
    clear hK K
    try conv => arg 8; simp only [Act.put, List.setIfInBounds_toArray, List.set_cons_zero, List.set_cons_succ]
    refine wpAnyH_done (by kernel_rfl) ?_ _
    obtain ⟨g1, g2⟩ := (hr.call b0).grow (B := B) (W1 := w2) (nb := W0.heap.size + 1) (by have := b0.size; omega) hb2 ho2 hn b3 (by omega) hcs2 hcs3 (fun i cs hc => (hcs4 i cs hc).mono (fun _ h => h) (fun b hb => b0.block b (hr.dl b hb))) ho4 hg4 hat4
    have g3 : Stp wr W0 B D' D' P la' la' := ⟨b0.mono hBw, fun b hb => b0.block b (hr.dl b hb), fun _ h => h, fun _ h => .inl h, fun b hb _ _ => b0.block b hb, fun _ h => .inl h⟩
    have g4 := (hs.trans g3).trans g2
    have n4 : (w4.setCell ⟨P, 4, none⟩ (.slice la2 (ln' + 1) lc2)).cell? ⟨P, 4, none⟩ = some (.slice la2 (ln' + 1) lc2) := g1.hP.cell 4
    have kk : Bk (w4.setCell ⟨P, 4, none⟩ (.slice la2 (ln' + 1) lc2)) w.heap.size 205 #[.slice none 0 0, .int .u64 0] := by
     have := hk.lt
     have k2 := ((hk.below b0 hk.lt).below hb2 (Nat.lt_of_lt_of_le hk.lt b0.size)).alloc (.cells #[.slice (some ⟨W0.heap.size + 1, 0, none⟩) r.K r.K, .int .u64 (endsM rows ln' : Int)] 205)
     exact (k2.grown hg4 (fun e => hne _ (.inr (.inr e.symm)) rfl)).far (p := ⟨P, 4, none⟩) (fun e => hne P (.inr (.inl rfl)) e.symm) _
    have nn : ∀ b, (D' b ∨ b = W0.heap.size + 1) ∨ b = P ∨ la2.map (·.block) = some b → b ≠ w.heap.size := fun b hb => by
     have := hk.lt
     have := b0.size
     have := hb2.size
     have := b3.size
     rcases hb with (h1 | h1) | h1 | h1
     ·exact hne b (.inl h1)
     ·omega
     ·exact hne b (.inr (.inl h1))
     ·rcases hat4 with e | e
      ·exact hne b (.inr (.inr (e ▸ h1)))
      ·rw [e] at h1; injection h1 with h1; omega
    clear hr hs hcs1 hcs2 hcs3 hcs4 HM q4 ho2 hb2 b3 ho4 hg4 hat4 HZ z4 zf g2 g3 x4 x4' b0 b00 hk hne
    generalize w4.setCell ⟨P, 4, none⟩ (.slice la2 (ln' + 1) lc2) = w5 at *
    go_wp2
    go_roundw
    case rel => exact ⟨_, la2, ln' + 1, lc2, g1, g4, by omega, by omega, kk, nn⟩
    case measure => simp only [n4, p4]; omega
   ·refine wy ?_
    go_simp
    refine hK.out _ _ trivial (fun _ => ?_)
    clear hK K
    try conv => arg 8; simp only [Act.put, List.setIfInBounds_toArray, List.set_cons_zero, List.set_cons_succ]
    refine tkC 10 ?_
    refine rd2 4 11 (fun K hK => ?_) (fun K hK => ?_)
    ·refine wy ?_
     go_simp
     refine hK.out _ _ trivial (fun _ => ?_)
     clear hK K
     try conv => arg 8; simp only [Act.put, List.setIfInBounds_toArray, List.set_cons_zero, List.set_cons_succ]
     refine rd1 11 fun K hK => ?_
     refine wy ?_
     go_simp
     go_at_call 95
     (with_reducible refine HM.out.mono ?_)
     rintro e w2 ⟨rfl, ho2, hb2⟩
     have x4 : w2.cell? ⟨P, 4, none⟩ = some (.slice la' ln' lc') := ((hr.call b0).hP.below hb2 (hr.call b0).lt).cell 4
     go_wp2_with fail
     refine hK.out _ _ trivial (fun _ => ?_)
     clear hK K
     try conv => arg 8; simp only [Act.put, List.setIfInBounds_toArray, List.set_cons_zero, List.set_cons_succ]
     refine rd1 12 fun K hK => ?_
     refine wy ?_
     go_simp
     refine hK.out _ _ trivial (fun _ => ?_)
     clear hK K
     try conv => arg 8; simp only [Act.put, List.setIfInBounds_toArray, List.set_cons_zero, List.set_cons_succ]
     have b3 : Below w2.heap.size w2 (w2.alloc (.cells #[.slice (some ⟨W0.heap.size + 1, 0, none⟩) r.K r.K, .int .u64 (endsM rows ln' : Int)] 205)) := (Below.refl _ _).alloc (Nat.le_refl _) _
     have x4' : (w2.alloc (.cells #[.slice (some ⟨W0.heap.size + 1, 0, none⟩) r.K r.K, .int .u64 (endsM rows ln' : Int)] 205)).cell? ⟨P, 4, none⟩ = some (.slice la' ln' lc') := cell_alloc x4 _
     refine rd1 13 fun K hK => ?_
     refine appStep elt_level (by kernel_rfl) _ _ rfl _ B _ _ _ css.flatten _ 1 1 [.slice (some ⟨W0.heap.size + 1, 0, none⟩) r.K r.K, .int .u64 (endsM rows ln' : Int)] (by rfl) (by rfl) (((hcs1.call b0).call hb2).call b3) rfl (news_new w2 _ 205) (by simp [Value.oneCell']) (by omega) (by have := hb2.size; have := b0.size; have := b3.size; omega) ?_
     intro la2 lc2 w4 ho4 hg4 _ hat4
     refine hK.out _ _ trivial (fun _ => ?_)
     clear hK K
     try conv => arg 8; simp only [Act.put, List.setIfInBounds_toArray, List.set_cons_zero, List.set_cons_succ]
     have hPP : some P ≠ la'.map (·.block) := fun e => (hr.ltl P e.symm).2.2 rfl
     have HZ : Bk w4 P 150 (r.cells la' ln' lc') ∧ True := ⟨(((hr.call b0).hP.below hb2 (hr.call b0).lt).alloc _).grown hg4 hPP, trivial⟩
     refine tkC 14 ?_
     refine tkC 15 ?_
     refine rd1 16 fun K hK => ?_
     refine wy ?_
     have z4 : w4.cell? ⟨P, 4, none⟩ = some (.slice la' ln' lc') := HZ.1.cell 4
     have zf : w4.frozen? ⟨P, 4, none⟩ = false := HZ.1.frozen 4
     go_simp
     refine hK.out _ _ trivial (fun _ => ?_)
     clear hK K
     try conv => arg 8; simp only [Act.put, List.setIfInBounds_toArray, List.set_cons_zero, List.set_cons_succ]
     refine wpAnyH_done (by kernel_rfl) ?_ _
     obtain ⟨g1, g2⟩ := (hr.call b0).grow (B := B) (W1 := w2) (nb := W0.heap.size + 1) (by have := b0.size; omega) hb2 ho2 hn b3 (by omega) hcs2 hcs3 (fun i cs hc => (hcs4 i cs hc).mono (fun _ h => h) (fun b hb => b0.block b (hr.dl b hb))) ho4 hg4 hat4
     have g3 : Stp wr W0 B D' D' P la' la' := ⟨b0.mono hBw, fun b hb => b0.block b (hr.dl b hb), fun _ h => h, fun _ h => .inl h, fun b hb _ _ => b0.block b hb, fun _ h => .inl h⟩
     have g4 := (hs.trans g3).trans g2
     have n4 : (w4.setCell ⟨P, 4, none⟩ (.slice la2 (ln' + 1) lc2)).cell? ⟨P, 4, none⟩ = some (.slice la2 (ln' + 1) lc2) := g1.hP.cell 4
     have kk : Bk (w4.setCell ⟨P, 4, none⟩ (.slice la2 (ln' + 1) lc2)) w.heap.size 205 #[.slice none 0 0, .int .u64 0] := by
      have := hk.lt
      have k2 := ((hk.below b0 hk.lt).below hb2 (Nat.lt_of_lt_of_le hk.lt b0.size)).alloc (.cells #[.slice (some ⟨W0.heap.size + 1, 0, none⟩) r.K r.K, .int .u64 (endsM rows ln' : Int)] 205)
      exact (k2.grown hg4 (fun e => hne _ (.inr (.inr e.symm)) rfl)).far (p := ⟨P, 4, none⟩) (fun e => hne P (.inr (.inl rfl)) e.symm) _
     have nn : ∀ b, (D' b ∨ b = W0.heap.size + 1) ∨ b = P ∨ la2.map (·.block) = some b → b ≠ w.heap.size := fun b hb => by
      have := hk.lt
      have := b0.size
      have := hb2.size
      have := b3.size
      rcases hb with (h1 | h1) | h1 | h1
      ·exact hne b (.inl h1)
      ·omega
      ·exact hne b (.inr (.inl h1))
      ·rcases hat4 with e | e
       ·exact hne b (.inr (.inr (e ▸ h1)))
       ·rw [e] at h1; injection h1 with h1; omega
     clear hr hs hcs1 hcs2 hcs3 hcs4 HM q4 ho2 hb2 b3 ho4 hg4 hat4 HZ z4 zf g2 g3 x4 x4' b0 b00 hk hne
     generalize w4.setCell ⟨P, 4, none⟩ (.slice la2 (ln' + 1) lc2) = w5 at *
     go_wp2
     go_roundw
     case rel => exact ⟨_, la2, ln' + 1, lc2, g1, g4, by omega, by omega, kk, nn⟩
     case measure => simp only [n4, p4]; omega
    ·refine wy ?_
     go_simp
     go_at_call 95
     (with_reducible refine HM.out.mono ?_)
     rintro e w2 ⟨rfl, ho2, hb2⟩
     have x4 : w2.cell? ⟨P, 4, none⟩ = some (.slice la' ln' lc') := ((hr.call b0).hP.below hb2 (hr.call b0).lt).cell 4
     go_wp2_with fail
     refine hK.out _ _ trivial (fun _ => ?_)
     clear hK K
     try conv => arg 8; simp only [Act.put, List.setIfInBounds_toArray, List.set_cons_zero, List.set_cons_succ]
     refine rd2 4 12 (fun K hK => ?_) (fun K hK => ?_)
     ·refine wy ?_
      go_simp
      refine hK.out _ _ trivial (fun _ => ?_)
      clear hK K
      try conv => arg 8; simp only [Act.put, List.setIfInBounds_toArray, List.set_cons_zero, List.set_cons_succ]
      refine rd1 12 fun K hK => ?_
      refine wy ?_
      go_simp
      refine hK.out _ _ trivial (fun _ => ?_)
      clear hK K
      try conv => arg 8; simp only [Act.put, List.setIfInBounds_toArray, List.set_cons_zero, List.set_cons_succ]
      have b3 : Below w2.heap.size w2 (w2.alloc (.cells #[.slice (some ⟨W0.heap.size + 1, 0, none⟩) r.K r.K, .int .u64 (endsM rows ln' : Int)] 205)) := (Below.refl _ _).alloc (Nat.le_refl _) _
      have x4' : (w2.alloc (.cells #[.slice (some ⟨W0.heap.size + 1, 0, none⟩) r.K r.K, .int .u64 (endsM rows ln' : Int)] 205)).cell? ⟨P, 4, none⟩ = some (.slice la' ln' lc') := cell_alloc x4 _
      refine rd1 13 fun K hK => ?_
      refine appStep elt_level (by kernel_rfl) _ _ rfl _ B _ _ _ css.flatten _ 1 1 [.slice (some ⟨W0.heap.size + 1, 0, none⟩) r.K r.K, .int .u64 (endsM rows ln' : Int)] (by rfl) (by rfl) (((hcs1.call b0).call hb2).call b3) rfl (news_new w2 _ 205) (by simp [Value.oneCell']) (by omega) (by have := hb2.size; have := b0.size; have := b3.size; omega) ?_
      intro la2 lc2 w4 ho4 hg4 _ hat4
      refine hK.out _ _ trivial (fun _ => ?_)
      clear hK K
      try conv => arg 8; simp only [Act.put, List.setIfInBounds_toArray, List.set_cons_zero, List.set_cons_succ]
      have hPP : some P ≠ la'.map (·.block) := fun e => (hr.ltl P e.symm).2.2 rfl
      have HZ : Bk w4 P 150 (r.cells la' ln' lc') ∧ True := ⟨(((hr.call b0).hP.below hb2 (hr.call b0).lt).alloc _).grown hg4 hPP, trivial⟩
      refine tkC 14 ?_
      refine tkC 15 ?_
      refine rd1 16 fun K hK => ?_
      refine wy ?_
      have z4 : w4.cell? ⟨P, 4, none⟩ = some (.slice la' ln' lc') := HZ.1.cell 4
      have zf : w4.frozen? ⟨P, 4, none⟩ = false := HZ.1.frozen 4
      go_simp
      refine hK.out _ _ trivial (fun _ => ?_)
      clear hK K
      try conv => arg 8; simp only [Act.put, List.setIfInBounds_toArray, List.set_cons_zero, List.set_cons_succ]
      refine wpAnyH_done (by kernel_rfl) ?_ _
      obtain ⟨g1, g2⟩ := (hr.call b0).grow (B := B) (W1 := w2) (nb := W0.heap.size + 1) (by have := b0.size; omega) hb2 ho2 hn b3 (by omega) hcs2 hcs3 (fun i cs hc => (hcs4 i cs hc).mono (fun _ h => h) (fun b hb => b0.block b (hr.dl b hb))) ho4 hg4 hat4
      have g3 : Stp wr W0 B D' D' P la' la' := ⟨b0.mono hBw, fun b hb => b0.block b (hr.dl b hb), fun _ h => h, fun _ h => .inl h, fun b hb _ _ => b0.block b hb, fun _ h => .inl h⟩
      have g4 := (hs.trans g3).trans g2
      have n4 : (w4.setCell ⟨P, 4, none⟩ (.slice la2 (ln' + 1) lc2)).cell? ⟨P, 4, none⟩ = some (.slice la2 (ln' + 1) lc2) := g1.hP.cell 4
      have kk : Bk (w4.setCell ⟨P, 4, none⟩ (.slice la2 (ln' + 1) lc2)) w.heap.size 205 #[.slice none 0 0, .int .u64 0] := by
       have := hk.lt
       have k2 := ((hk.below b0 hk.lt).below hb2 (Nat.lt_of_lt_of_le hk.lt b0.size)).alloc (.cells #[.slice (some ⟨W0.heap.size + 1, 0, none⟩) r.K r.K, .int .u64 (endsM rows ln' : Int)] 205)
       exact (k2.grown hg4 (fun e => hne _ (.inr (.inr e.symm)) rfl)).far (p := ⟨P, 4, none⟩) (fun e => hne P (.inr (.inl rfl)) e.symm) _
      have nn : ∀ b, (D' b ∨ b = W0.heap.size + 1) ∨ b = P ∨ la2.map (·.block) = some b → b ≠ w.heap.size := fun b hb => by
       have := hk.lt
       have := b0.size
       have := hb2.size
       have := b3.size
       rcases hb with (h1 | h1) | h1 | h1
       ·exact hne b (.inl h1)
       ·omega
       ·exact hne b (.inr (.inl h1))
       ·rcases hat4 with e | e
        ·exact hne b (.inr (.inr (e ▸ h1)))
        ·rw [e] at h1; injection h1 with h1; omega
      clear hr hs hcs1 hcs2 hcs3 hcs4 HM q4 ho2 hb2 b3 ho4 hg4 hat4 HZ z4 zf g2 g3 x4 x4' b0 b00 hk hne
      generalize w4.setCell ⟨P, 4, none⟩ (.slice la2 (ln' + 1) lc2) = w5 at *
      go_wp2
      go_roundw
      case rel => exact ⟨_, la2, ln' + 1, lc2, g1, g4, by omega, by omega, kk, nn⟩
      case measure => simp only [n4, p4]; omega
     ·refine wy ?_
      go_simp
      refine hK.out _ _ trivial (fun _ => ?_)
      clear hK K
      try conv => arg 8; simp only [Act.put, List.setIfInBounds_toArray, List.set_cons_zero, List.set_cons_succ]
      have b3 : Below w2.heap.size w2 (w2.alloc (.cells #[.slice (some ⟨W0.heap.size + 1, 0, none⟩) r.K r.K, .int .u64 (endsM rows ln' : Int)] 205)) := (Below.refl _ _).alloc (Nat.le_refl _) _
      have x4' : (w2.alloc (.cells #[.slice (some ⟨W0.heap.size + 1, 0, none⟩) r.K r.K, .int .u64 (endsM rows ln' : Int)] 205)).cell? ⟨P, 4, none⟩ = some (.slice la' ln' lc') := cell_alloc x4 _
      refine rd1 4 fun K hK => ?_
      refine wy ?_
      go_simp
      refine hK.out _ _ trivial (fun _ => ?_)
      clear hK K
      try conv => arg 8; simp only [Act.put, List.setIfInBounds_toArray, List.set_cons_zero, List.set_cons_succ]
      refine rd1 13 fun K hK => ?_
      refine appStep elt_level (by kernel_rfl) _ _ rfl _ B _ _ _ css.flatten _ 1 1 [.slice (some ⟨W0.heap.size + 1, 0, none⟩) r.K r.K, .int .u64 (endsM rows ln' : Int)] (by rfl) (by rfl) (((hcs1.call b0).call hb2).call b3) rfl (news_new w2 _ 205) (by simp [Value.oneCell']) (by omega) (by have := hb2.size; have := b0.size; have := b3.size; omega) ?_
      intro la2 lc2 w4 ho4 hg4 _ hat4
      refine hK.out _ _ trivial (fun _ => ?_)
      clear hK K
      try conv => arg 8; simp only [Act.put, List.setIfInBounds_toArray, List.set_cons_zero, List.set_cons_succ]
      have hPP : some P ≠ la'.map (·.block) := fun e => (hr.ltl P e.symm).2.2 rfl
      have HZ : Bk w4 P 150 (r.cells la' ln' lc') ∧ True := ⟨(((hr.call b0).hP.below hb2 (hr.call b0).lt).alloc _).grown hg4 hPP, trivial⟩
      refine tkC 14 ?_
      refine tkC 15 ?_
      refine rd1 16 fun K hK => ?_
      refine wy ?_
      have z4 : w4.cell? ⟨P, 4, none⟩ = some (.slice la' ln' lc') := HZ.1.cell 4
      have zf : w4.frozen? ⟨P, 4, none⟩ = false := HZ.1.frozen 4
      go_simp
      refine hK.out _ _ trivial (fun _ => ?_)
      clear hK K
      try conv => arg 8; simp only [Act.put, List.setIfInBounds_toArray, List.set_cons_zero, List.set_cons_succ]
      refine wpAnyH_done (by kernel_rfl) ?_ _
      obtain ⟨g1, g2⟩ := (hr.call b0).grow (B := B) (W1 := w2) (nb := W0.heap.size + 1) (by have := b0.size; omega) hb2 ho2 hn b3 (by omega) hcs2 hcs3 (fun i cs hc => (hcs4 i cs hc).mono (fun _ h => h) (fun b hb => b0.block b (hr.dl b hb))) ho4 hg4 hat4
      have g3 : Stp wr W0 B D' D' P la' la' := ⟨b0.mono hBw, fun b hb => b0.block b (hr.dl b hb), fun _ h => h, fun _ h => .inl h, fun b hb _ _ => b0.block b hb, fun _ h => .inl h⟩
      have g4 := (hs.trans g3).trans g2
      have n4 : (w4.setCell ⟨P, 4, none⟩ (.slice la2 (ln' + 1) lc2)).cell? ⟨P, 4, none⟩ = some (.slice la2 (ln' + 1) lc2) := g1.hP.cell 4
      have kk : Bk (w4.setCell ⟨P, 4, none⟩ (.slice la2 (ln' + 1) lc2)) w.heap.size 205 #[.slice none 0 0, .int .u64 0] := by
       have := hk.lt
       have k2 := ((hk.below b0 hk.lt).below hb2 (Nat.lt_of_lt_of_le hk.lt b0.size)).alloc (.cells #[.slice (some ⟨W0.heap.size + 1, 0, none⟩) r.K r.K, .int .u64 (endsM rows ln' : Int)] 205)
       exact (k2.grown hg4 (fun e => hne _ (.inr (.inr e.symm)) rfl)).far (p := ⟨P, 4, none⟩) (fun e => hne P (.inr (.inl rfl)) e.symm) _
      have nn : ∀ b, (D' b ∨ b = W0.heap.size + 1) ∨ b = P ∨ la2.map (·.block) = some b → b ≠ w.heap.size := fun b hb => by
       have := hk.lt
       have := b0.size
       have := hb2.size
       have := b3.size
       rcases hb with (h1 | h1) | h1 | h1
       ·exact hne b (.inl h1)
       ·omega
       ·exact hne b (.inr (.inl h1))
       ·rcases hat4 with e | e
        ·exact hne b (.inr (.inr (e ▸ h1)))
        ·rw [e] at h1; injection h1 with h1; omega
      clear hr hs hcs1 hcs2 hcs3 hcs4 HM q4 ho2 hb2 b3 ho4 hg4 hat4 HZ z4 zf g2 g3 x4 x4' b0 b00 hk hne
      generalize w4.setCell ⟨P, 4, none⟩ (.slice la2 (ln' + 1) lc2) = w5 at *
      go_wp2
      go_roundw
      case rel => exact ⟨_, la2, ln' + 1, lc2, g1, g4, by omega, by omega, kk, nn⟩
      case measure => simp only [n4, p4]; omega
  ·have t0 : decide ((ln' : Int) ≤ (met : Int)) = false := by simp; omega
   have t1 : decide (ln' ≤ met) = false := by simp; omega
   obtain ⟨css, hcs1, hcs2, hcs3, hcs4⟩ := hr.lv
   obtain ⟨cs, hcs⟩ := at_some css met (by omega)
   obtain ⟨nb, rfl, hDn, hrd⟩ := hcs4 met cs hcs
   obtain ⟨g, rfl, hgB, hgl⟩ := hcs1.form (by omega)
   have y0 := hcs1.cell (j := met * 2 + 0) (flat_at hcs3 hcs rfl)
   have y1 := hcs1.cell (j := met * 2 + 1) (flat_at hcs3 hcs rfl)
   rw [Nat.add_zero] at y0
   have hcap := hcs1.cap
   have hcap1 := hcap.1
   have hcap2 := hcap.2
   have mz : (0 : Int) ≤ (met : Int) := by omega
   have mn : (met : Int) < (ln' : Int) := by omega
   have k0 : wr.cell? ⟨w.heap.size, 0, none⟩ = some (.slice none 0 0) := hk.cell 0
   have k1 : wr.cell? ⟨w.heap.size, 1, none⟩ = some (.int .u64 0) := hk.cell 1
   have fr0 := hk.frozen 0
   have fr1 := hk.frozen 1
   clear hcs hcs1 hcs2 hcs3 hcs4 hcap
   go_wp2
   have kf := (hk.set_ 0 (.slice (some ⟨nb, 0, none⟩) r.K r.K)).set_ 1 (.int .u64 (endsM rows met : Int))
   have z0 : ((wr.setCell ⟨w.heap.size, 0, none⟩ (.slice (some ⟨nb, 0, none⟩) r.K r.K)).setCell ⟨w.heap.size, 1, none⟩ (.int .u64 (endsM rows met : Int))).cell? ⟨w.heap.size, 0, none⟩ = some (.slice (some ⟨nb, 0, none⟩) r.K r.K) := kf.cell 0
   have z1 : ((wr.setCell ⟨w.heap.size, 0, none⟩ (.slice (some ⟨nb, 0, none⟩) r.K r.K)).setCell ⟨w.heap.size, 1, none⟩ (.int .u64 (endsM rows met : Int))).cell? ⟨w.heap.size, 1, none⟩ = some (.int .u64 (endsM rows met : Int)) := kf.cell 1
   have far : ∀ b, b ≠ w.heap.size → ((wr.setCell ⟨w.heap.size, 0, none⟩ (.slice (some ⟨nb, 0, none⟩) r.K r.K)).setCell ⟨w.heap.size, 1, none⟩ (.int .u64 (endsM rows met : Int))).heap[b]? = wr.heap[b]? := fun b hb => by
    rw [Below.heap_setCell _ ⟨w.heap.size, 1, none⟩ _ b hb, Below.heap_setCell _ ⟨w.heap.size, 0, none⟩ _ b hb]
   have hsz : ((wr.setCell ⟨w.heap.size, 0, none⟩ (.slice (some ⟨nb, 0, none⟩) r.K r.K)).setCell ⟨w.heap.size, 1, none⟩ (.int .u64 (endsM rows met : Int))).heap.size = wr.heap.size := by simp
   have kd : Kept D' wr ((wr.setCell ⟨w.heap.size, 0, none⟩ (.slice (some ⟨nb, 0, none⟩) r.K r.K)).setCell ⟨w.heap.size, 1, none⟩ (.int .u64 (endsM rows met : Int))) := fun b hb => far b (hne b (.inl hb))
   refine bodyPost_ret (v := .agg #[.slice (some ⟨nb, 0, none⟩) r.K r.K, .int .u64 (endsM rows met : Int)]) (by simp [results, Tryd.results86, go_sem, z0, z1]) rfl ⟨nb, D', some ⟨g, 0, none⟩, ln', lc', rfl, hrd.mono (fun _ h => h) kd, ?_, ?_, hl1, hl2⟩
   ·exact hr.keep (fun b hb => far b (hne b hb)) (fun _ h => h) (fun b hb => ⟨by rw [hsz]; exact hr.dl b hb, fun e => hr.nP (e ▸ hb), fun e => hr.nl b e hb⟩)
   ·exact ⟨(hs.bl.setCell (p := ⟨w.heap.size, 0, none⟩) hB _).setCell (p := ⟨w.heap.size, 1, none⟩) hB _, fun b hb => (kd b (hs.up b hb)).trans (hs.kd b hb), hs.up, hs.new, fun b hb hp hl => (far b (by omega)).trans (hs.oth b hb hp hl), hs.lb⟩

end Go.Proofs.YtgcmedkaadagmaaDoor
