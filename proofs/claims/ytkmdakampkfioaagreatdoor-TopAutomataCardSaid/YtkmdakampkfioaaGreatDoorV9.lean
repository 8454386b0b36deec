/- Walks: first, behind, ends. -/
import Derived.Test.YtkmdakampkfioaaGreatDoorTk
import Derived.Test.YtkmdakampkfioaaGreatDoorV8
namespace Go.Proofs.YtkmdakampkfioaaGreatDoor
open Go.RowKit Go.Shelf
theorem field_next (w : World) (A : Option Addr) (n c : Nat) (x : Int) : (Instr.field 188 (.agg #[.slice A n c, .int .u64 x]) 0).run Tryz.prog w = .ok (.slice A n c) w := by kernel_rfl
theorem field_ends (w : World) (A : Option Addr) (n c : Nat) (x : Int) : (Instr.field 188 (.agg #[.slice A n c, .int .u64 x]) 1).run Tryz.prog w = .ok (.int .u64 x) w := by kernel_rfl
attribute [local go_sem] field_next field_ends
theorem nextM_lt (rows : List (List (List Int))) (cls : List Int) (met : Nat) (c : Int) (h : rows.length ≤ 64) : nextM rows cls met c < 18446744073709551616 := bitsOf_lt64 _ h
theorem behindP_eq (rows : List (List (List Int))) (cls : List Int) (m x : Nat) (c : Int) : behindP rows cls (m, x) c = if x &&& nextM rows cls m c = 0 then (0, 0) else (m + 1, x &&& nextM rows cls m c) := rfl
theorem RO.stp {W W1 : World} {B : Nat} {D : Nat → Prop} {P : Nat} {r : WV} {rows : List (List (List Int))} {cls : List Int} {la : Option Addr} {ln lc : Nat} (h : RO W B D P r rows cls la ln lc) (hB : B ≤ W.heap.size) (hb : Below W.heap.size W W1) : Stp W W1 B D D P la la :=
 ⟨hb.mono hB, fun b hd => hb.block b (h.dl b hd), fun _ h => h, fun _ h => .inl h, fun b hb' _ _ => hb.block b hb', fun _ h => .inl h⟩
theorem RO.post {W W1 : World} {B : Nat} {D : Nat → Prop} {P : Nat} {r : WV} {rows : List (List (List Int))} {cls : List Int} {la : Option Addr} {ln lc : Nat} (h : RO W B D P r rows cls la ln lc) (hB : B ≤ W.heap.size) (hb : Below W.heap.size W W1) (met : Nat) : LvPost W B D P r rows cls la ln met W1 D la ln lc :=
 ⟨h.call hb, h.stp hB hb, Nat.le_refl _, Nat.le_max_left _ _⟩
theorem LvPost.after {W W1 W2 : World} {B : Nat} {D D' : Nat → Prop} {P : Nat} {r : WV} {rows : List (List (List Int))} {cls : List Int} {la la' : Option Addr} {ln lc ln' lc' met : Nat} (h : RO W B D P r rows cls la ln lc) (hB : B ≤ W.heap.size) (hb : Below W.heap.size W W1) (k : LvPost W1 B D P r rows cls la ln met W2 D' la' ln' lc') : LvPost W B D P r rows cls la ln met W2 D' la' ln' lc' :=
 ⟨k.1, (h.stp hB hb).trans k.2.1, k.2.2⟩
theorem LvPost.own {W W1 W2 : World} {B : Nat} {D D' : Nat → Prop} {P : Nat} {r : WV} {rows : List (List (List Int))} {cls : List Int} {la la' : Option Addr} {ln ln' lc' met : Nat} (k : LvPost W B D P r rows cls la ln met W1 D' la' ln' lc') (hs : W2.heap.size = W1.heap.size) (hg : Below B W1 W2) (far : ∀ b, b < W.heap.size ∨ D' b ∨ la'.map (·.block) = some b → W2.heap[b]? = W1.heap[b]?) (hP : P < W.heap.size) : LvPost W B D P r rows cls la ln met W2 D' la' ln' lc' := by
 obtain ⟨hr, st, h1, h2⟩ := k;refine ⟨hr.keep (fun b hb => far b ?_) (fun _ h => h) (fun b hd => ⟨by rw [hs]; exact hr.dl b hd, fun e => hr.nP (e ▸ hd), fun e => hr.nl b e hd⟩), ⟨st.bl.trans hg, fun b hb => (far b (.inr (.inl (st.up b hb)))).trans (st.kd b hb), st.up, st.new, fun b hb hp hl => (far b (.inl hb)).trans (st.oth b hb hp hl), st.lb⟩, h1, h2⟩;rcases hb with h | h | h
 ·exact .inr (.inl h)
 ·subst h; exact .inl hP
 ·exact .inr (.inr h)
set_option maxRecDepth 100000 in
set_option maxHeartbeats 400000 in
theorem first_c' (B : Nat) (D : Nat → Prop) (P : Nat) (r : WV) (rows : List (List (List Int))) (cls : List Int) (la : Option Addr) (ln lc : Nat) (w : World) (h : RO w B D P r rows cls la ln lc) :
  Calls Tryz.prog 40 #[.pointer (some ⟨P, 0, none⟩)] w fun e w' => e = .returned (.agg #[.int .i64 0, .int .u64 (r.hv : Int)]) ∧ Below w.heap.size w w' := by
 have p1 : w.cell? ⟨P, 1, none⟩ = some (.int .u64 (r.hv : Int)) := h.hP.cell 1;have q1 := cell_alloc p1 (.cells #[.int .i64 0, .int .u64 0] 130);clear h p1;go_enter Tryz.func40, Tryz.ntmps40;go_wp2;refine bodyPost_ret (v := .agg #[.int .i64 0, .int .u64 (r.hv : Int)]) (by simp [results, Tryz.results40, go_sem]) rfl ⟨rfl, (Below.refl _ _).alloc (Nat.le_refl _) _⟩
theorem Stp.box {W W' : World} {B : Nat} {D D' : Nat → Prop} {P : Nat} {la la' : Option Addr} (h : Stp W W' B D D' P la la') {g : Nat} {t : TypeId} {cs : Array Value} (hk : Bk W g t cs) (hP : g ≠ P) (hl : la.map (·.block) ≠ some g) : Bk W' g t cs := (h.oth g hk.lt hP hl).trans hk
set_option maxRecDepth 100000 in
set_option maxHeartbeats 1000000 in
theorem ends_c (B : Nat) (D : Nat → Prop) (P : Nat) (r : WV) (rows : List (List (List Int))) (cls : List Int) (la : Option Addr) (ln lc m x : Nat) (w : World) (h : RO w B D P r rows cls la ln lc) (hB : B ≤ w.heap.size) (hG : GlyOK cls r.K) (hn : rows.length ≤ 64) (hK : r.K ≤ 65536) (hm : m ≤ 900000) (hx : x < 18446744073709551616) :
  Calls Tryz.prog 42 #[.pointer (some ⟨P, 0, none⟩), .agg #[.int .i64 (m : Int), .int .u64 (x : Int)]] w fun e w' => ∃ (D' : Nat → Prop) (la' : Option Addr) (ln' lc' : Nat), e = .returned (.int .u64 (endsP rows (m, x) : Int)) ∧ LvPost w B D P r rows cls la ln m w' D' la' ln' lc' := by
 have b1 : Below w.heap.size w (w.alloc (.cells #[.int .i64 (m : Int), .int .u64 (x : Int)] 130)) := (Below.refl _ _).alloc (Nat.le_refl _) _;by_cases hx0 : x = 0
 ·subst hx0;have hz := endsP_dead rows m;have HZ := Lib.hid hz;clear hz;go_enter Tryz.func42, Tryz.ntmps42;go_wp2;go_ret;exact ⟨D, la, ln, lc, by rw [HZ.out]; rfl, h.post hB b1 m⟩
 ·have e0 : ((x : Int) == 0) = false := by simp; omega
  have e1 : (x == 0) = false := by simpa using hx0
  have hlv := level_c B D P r rows cls la ln lc m;have h1 := h.call b1;have k1 := Bk.new w 130 #[.int .i64 (m : Int), .int .u64 (x : Int)];have hand1 := bits_and_u64_nat x (endsM rows m) hx (bitsOf_lt64 _ hn);have HAND := Lib.hid hand1;have HH := Lib.hid h;have hgP : w.heap.size ≠ P := by have := h.lt; omega
  have hgl : la.map (·.block) ≠ some w.heap.size := fun e => by have := (h.ltl _ e).1; omega
  clear hand1 h hx0;go_enter Tryz.func42, Tryz.ntmps42;go_wp2;obtain ⟨g, hg⟩ : ∃ g, w.heap.size = g := ⟨_, rfl⟩;rw [hg] at k1 hgP hgl ⊢;have HGE := Lib.hid hg;have HB1 := Lib.hid b1;clear hg b1;generalize w.alloc (.cells #[.int .i64 (m : Int), .int .u64 (x : Int)] 130) = w1 at *;refine wp_region_held_drew (S := fun w' => w'.cell? ⟨g, 0, none⟩ = some (.int .i64 (m : Int)) ∧ w'.cell? ⟨g, 1, none⟩ = some (.int .u64 (x : Int))) (by kernel_rfl) ⟨k1.cell 0, k1.cell 1⟩ (fun hH => ?_);have h2 : RO w1.drew B D P r rows cls la ln lc := h1.call (below_drewN (Below.refl _ _) 1);have b2 : Below w1.heap.size w1 w1.drew := below_drewN (Below.refl _ _) 1;have k2 : Bk w1.drew g 130 #[.int .i64 (m : Int), .int .u64 (x : Int)] := k1;have HL := Lib.hid (hlv w1.drew h2 (Nat.le_trans hB (Nat.le_trans HB1.out.size b2.size)) hG hn hK hm);clear h1 k1 hlv;generalize w1.drew = W0 at *;refine tkC 0 ?_;refine tkC 1 ?_;refine tkC 2 ?_;refine tkC 3 ?_;refine tkC 4 ?_;refine ry 5 fun K hK => ?_;go_simp;go_at_call 62;(with_reducible refine HL.out.mono ?_);rintro e w2 ⟨nb, D', la', ln', lc', rfl, _, post⟩;have k3 := post.2.1.box k2 hgP hgl;go_wp2_with fail;refine hK.out _ _ ⟨k3.cell 0, k3.cell 1⟩ (fun hH => ?_);clear hK K;try conv => arg 8; simp only [Act.put, List.setIfInBounds_toArray, List.set_cons_zero, List.set_cons_succ]
  refine tkC 6 ?_;refine tkC 7 ?_;refine tkC 8 ?_;refine dn ?_;clear hH;try rw [HAND.out]
  go_wp2;go_ret;exact ⟨D', la', ln', lc', rfl, LvPost.after HH.out hB HB1.out (LvPost.after (HH.out.call HB1.out) (Nat.le_trans hB HB1.out.size) b2 post)⟩
set_option maxRecDepth 100000 in
set_option maxHeartbeats 1000000 in
theorem behind_c (B : Nat) (D : Nat → Prop) (P : Nat) (r : WV) (rows : List (List (List Int))) (cls : List Int) (la : Option Addr) (ln lc m x c : Nat) (w : World) (h : RO w B D P r rows cls la ln lc) (hB : B ≤ w.heap.size) (hG : GlyOK cls r.K) (hn : rows.length ≤ 64) (hK : r.K ≤ 65536) (hm : m ≤ 900000) (hx : x < 18446744073709551616) (hc : c < r.K) :
  Calls Tryz.prog 41 #[.pointer (some ⟨P, 0, none⟩), .agg #[.int .i64 (m : Int), .int .u64 (x : Int)], .int .i64 (c : Int)] w fun e w' => ∃ (D' : Nat → Prop) (la' : Option Addr) (ln' lc' : Nat), e = .returned (.agg #[.int .i64 ((behindP rows cls (m, x) (c : Int)).1 : Int), .int .u64 ((behindP rows cls (m, x) (c : Int)).2 : Int)]) ∧ LvPost w B D P r rows cls la ln m w' D' la' ln' lc' := by
 have b1 : Below w.heap.size w (w.alloc (.cells #[.int .i64 (m : Int), .int .u64 (x : Int)] 130)) := (Below.refl _ _).alloc (Nat.le_refl _) _;have b2 : Below w.heap.size w ((w.alloc (.cells #[.int .i64 (m : Int), .int .u64 (x : Int)] 130)).alloc (.cells #[.int .i64 0, .int .u64 0] 130)) := below_lit _ _ b1 _;have k1 := (Bk.new w 130 #[.int .i64 (m : Int), .int .u64 (x : Int)]).alloc (.cells #[.int .i64 0, .int .u64 0] 130);have k2 := Bk.new (w.alloc (.cells #[.int .i64 (m : Int), .int .u64 (x : Int)] 130)) 130 #[.int .i64 0, .int .u64 0];rw [World.size_alloc] at k2;have h2 := h.call b2;have hB2 := Nat.le_trans hB b2.size;have hPl := h.lt;have hll := Lib.hid h.ltl;have HB2 := Lib.hid b2;have HH := Lib.hid h;have HS := Lib.hid (show w.heap.size + 1 < ((w.alloc (.cells #[.int .i64 (m : Int), .int .u64 (x : Int)] 130)).alloc (.cells #[.int .i64 0, .int .u64 0] 130)).heap.size by simp)
 -- the end
 have FIN := Lib.hid fun (W : World) (D' : Nat → Prop) (la' : Option Addr) (ln' lc' : Nat) (u v : Nat) (post : LvPost w B D P r rows cls la ln m W D' la' ln' lc') (kk : Bk W (w.heap.size + 1) 130 #[.int .i64 0, .int .u64 0]) (nD : ¬ D' (w.heap.size + 1)) (nL : la'.map (·.block) ≠ some (w.heap.size + 1)) =>
  (show LvPost w B D P r rows cls la ln m ((W.setCell ⟨w.heap.size + 1, 0, none⟩ (.int .i64 (u : Int))).setCell ⟨w.heap.size + 1, 1, none⟩ (.int .u64 (v : Int))) D' la' ln' lc' ∧ Bk ((W.setCell ⟨w.heap.size + 1, 0, none⟩ (.int .i64 (u : Int))).setCell ⟨w.heap.size + 1, 1, none⟩ (.int .u64 (v : Int))) (w.heap.size + 1) 130 #[.int .i64 (u : Int), .int .u64 (v : Int)] from
   ⟨post.own (by simp) (((Below.refl _ _).setCell (p := ⟨w.heap.size + 1, 0, none⟩) (by show B ≤ w.heap.size + 1; omega) _).setCell (p := ⟨w.heap.size + 1, 1, none⟩) (by show B ≤ w.heap.size + 1; omega) _) (fun b hb => by
    have hne : b ≠ w.heap.size + 1 := fun e => by
     subst e;rcases hb with hb | hb | hb
     ·omega
     ·exact nD hb
     ·exact nL hb
    rw [Below.heap_setCell _ ⟨w.heap.size + 1, 1, none⟩ _ b hne, Below.heap_setCell _ ⟨w.heap.size + 1, 0, none⟩ _ b hne]) hPl, (kk.set_ 0 _).set_ 1 _⟩)
 have c0 := box_cells k1 0 rfl;have c1 := box_cells k1 1 rfl;by_cases hx0 : x = 0
 ·subst hx0;have HZ := Lib.hid (behindP_dead rows cls (c : Int) m);obtain ⟨f1, f2⟩ := FIN.out _ D la ln lc 0 0 (h.post hB b2 m) k2 (fun hd => by have := h.dl _ hd; omega) (fun e => by have := (h.ltl _ e).1; omega);clear h h2 hB2;rw [HZ.out];go_enter Tryz.func41, Tryz.ntmps41;go_wp2;refine bodyPost_ret (v := .agg #[.int .i64 0, .int .u64 0]) (by simp [results, Tryz.results41, go_sem]) rfl ⟨D, la, ln, lc, rfl, (HH.out.post hB HB2.out m)⟩
 ·have e0 : ((x : Int) == 0) = false := by simp; omega
  have e1 : (x == 0) = false := by simpa using hx0
  have HL := Lib.hid (level_c B D P r rows cls la ln lc m _ h2 hB2 hG hn hK hm);have n1 := nextM_lt rows cls m (c : Int) hn;have hand1 := bits_and_u64_nat x (nextM rows cls m (c : Int)) hx n1;have HBH := Lib.hid (behindP_eq rows cls m x (c : Int));have hNP : w.heap.size ≠ P ∧ w.heap.size + 1 ≠ P := by omega
  have hNL : la.map (·.block) ≠ some w.heap.size ∧ la.map (·.block) ≠ some (w.heap.size + 1) := ⟨fun e => by have := (h.ltl _ e).1; omega, fun e => by have := (h.ltl _ e).1; omega⟩;have hND : ¬ D (w.heap.size + 1) := fun hd => by have := h.dl _ hd; omega
  obtain ⟨v, hv⟩ : ∃ v, x &&& nextM rows cls m (c : Int) = v := ⟨_, rfl⟩;rw [hv] at hand1 HBH;have HV := Lib.hid hv;clear h h2 hB2 hx0 hv;go_enter Tryz.func41, Tryz.ntmps41;go_wp2_with fail;refine HL.out.mono ?_;rintro e w2 ⟨nb, D', la', ln', lc', rfl, hrd, post⟩;have kk1 := post.2.1.box k1 hNP.1 hNL.1;have kk2 := post.2.1.box k2 hNP.2 hNL.2;have nD' : ¬ D' (w.heap.size + 1) := fun hd => by
   rcases post.2.1.new _ hd with h1 | h1
   ·exact hND h1
   ·have := HS.out; omega
  have nL' : la'.map (·.block) ≠ some (w.heap.size + 1) := fun e => by
   rcases post.2.1.lb _ e with h1 | h1
   ·exact hNL.2 h1
   ·have := HS.out; omega
  have HPO := Lib.hid (LvPost.after HH.out hB HB2.out post);obtain ⟨nb', no', hne, _, hcc⟩ := hrd.pos (by omega);injection hne with hne;injection hne with hne1 hne2;subst hne1; subst hne2;obtain ⟨cs, ⟨rfl, _⟩, hcc2⟩ := hcc c _ (nxL_at rows cls hc);have y0 := hcc2 0 _ rfl;rw [Nat.zero_add, Nat.mul_one, Nat.add_zero] at y0;have cz : (0 : Int) ≤ (c : Int) := by omega
  have cn : (c : Int) < (r.K : Int) := by omega
  have d0 := box_cells kk1 0 rfl;have d1 := box_cells kk1 1 rfl;have r0 := box_cells kk2 0 rfl;have r1 := box_cells kk2 1 rfl;have g0 := kk2.frozen 0;have g1 := kk2.frozen 1;clear post hrd hcc hcc2 HL;by_cases hv0 : v = 0
  ·subst hv0;obtain ⟨f1, f2⟩ := FIN.out w2 D' la' ln' lc' 0 0 HPO.out kk2 nD' nL';have z0 := box_cells f2 0 rfl;have z1 := box_cells f2 1 rfl;have hm0 : ((0 : Nat) : Int) = 0 := rfl;rw [hm0] at f1 z0 z1;have z0' : (w2.setCell ⟨w.heap.size + 1, 0, none⟩ (.int .i64 0)).cell? ⟨w.heap.size + 1, 0, none⟩ = some (.int .i64 0) := (kk2.set_ 0 (.int .i64 0)).cell 0;clear FIN f2 hm0;go_wp2;refine bodyPost_ret (v := .agg #[.int .i64 0, .int .u64 0]) (by simp [results, Tryz.results41, go_sem, z0', z1]) rfl ⟨D', la', ln', lc', by rw [HBH.out]; simp, f1⟩
  ·have v0 : ((v : Int) == 0) = false := by simp; omega
   have v1 : (v == 0) = false := by simpa using hv0
   obtain ⟨f1, f2⟩ := FIN.out w2 D' la' ln' lc' (m + 1) v HPO.out kk2 nD' nL';have z0 := box_cells f2 0 rfl;have z1 := box_cells f2 1 rfl;have hm1 : ((m + 1 : Nat) : Int) = (m : Int) + 1 := by omega
   rw [hm1] at f1 z0 z1;clear FIN f2 hm1;go_wp2;refine bodyPost_ret (v := .agg #[.int .i64 ((m : Int) + 1), .int .u64 (v : Int)]) (by simp [results, Tryz.results41, go_sem, z0, z1]) rfl ⟨D', la', ln', lc', by rw [HBH.out, if_neg hv0]; rfl, f1⟩
end Go.Proofs.YtkmdakampkfioaaGreatDoor
