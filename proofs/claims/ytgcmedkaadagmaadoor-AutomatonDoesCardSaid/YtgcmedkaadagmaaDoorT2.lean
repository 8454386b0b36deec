/- Walks: turned. -/
import Derived.Test.YtgcmedkaadagmaaDoorTk
import Derived.Test.YtgcmedkaadagmaaDoorL9
namespace Go.Proofs.YtgcmedkaadagmaaDoor
open Go.RowKit Go.Shelf Go.Maps

/-- A number in place of a number. -/
def IntLike (v v' : Value) : Prop := (∃ x y : Int, v = .int .i64 x ∧ v' = .int .i64 y) ∨ (∃ x y : Nat, v = .int .u64 (x : Int) ∧ v' = .int .u64 (y : Int) ∧ y < 18446744073709551616) ∨ v' = v
def Sim (w w' : World) : Prop := ∀ b o v, w.cell? ⟨b, o, none⟩ = some v → ∃ v', w'.cell? ⟨b, o, none⟩ = some v' ∧ IntLike v v'
theorem Sim.keep {w w' : World} (h : ∀ b : Nat, w'.heap[b]? = w.heap[b]?) : Sim w w' := fun b o v hv => ⟨v, (World.cell?_of_block (a := ⟨b, o, none⟩) (h b)).trans hv, .inr (.inr rfl)⟩
theorem Sim.set {w : World} {g i : Nat} {u u' : Value} (h : w.cell? ⟨g, i, none⟩ = some u) (hu : IntLike u u') : Sim w (w.setCell ⟨g, i, none⟩ u') := fun b o v hv => by
 by_cases e : (⟨g, i, none⟩ : Addr) = ⟨b, o, none⟩
 ·rw [← e] at hv ⊢
  rw [h] at hv
  injection hv with hv
  subst hv
  exact ⟨u', World.cell?_setCell_same _ _ _ h, hu⟩
 ·exact ⟨v, (World.cell?_setCell_other _ _ _ _ e).trans hv, .inr (.inr rfl)⟩
theorem Rd.sim {w w' : World} {S : Nat → Prop} {A : Option Addr} {n : Nat} {xs : List Int} (h : Rd w S A n xs) (hs : Sim w w') : ∃ ys, Rd w' S A n ys := by
 by_cases hn : n = 0
 ·subst hn; exact ⟨[], SlE.nil⟩
 ·obtain ⟨b, o, e, hb, hc⟩ := h.2 (by omega)
  have hch : ∀ i, i < n → ∃ y : Int, w'.cell? ⟨b, o + i, none⟩ = some (.int .i64 y) := fun i hi => by
   obtain ⟨x, hx⟩ := at_some xs i (by rw [h.1]; exact hi)
   obtain ⟨cs, rfl, hcc⟩ := hc i x hx
   have h0 := hcc 0 _ rfl
   rw [Nat.mul_one, Nat.add_zero] at h0
   obtain ⟨v', h1, h2⟩ := hs b (o + i) _ h0
   rcases h2 with ⟨x', y, _, rfl⟩ | ⟨x', y, e1, _⟩ | rfl
   ·exact ⟨y, h1⟩
   ·injection e1 with e1 _; cases e1
   ·exact ⟨x, h1⟩
  obtain ⟨f, hf⟩ := Deep.choose_lt hch
  refine ⟨(List.range n).map f, by simp, fun _ => ⟨b, o, e, hb, fun i x hx => ?_⟩⟩
  have hi : i < n := by have := (List.getElem?_eq_some_iff.1 hx).1; simpa using this
  simp [hi] at hx
  subst hx
  refine ⟨_, rfl, fun j v hv => ?_⟩
  match j, hv with
  | 0, hv => injection hv with hv; subst hv; rw [Nat.mul_one, Nat.add_zero]; exact hf i hi
theorem RdU.sim {w w' : World} {S : Nat → Prop} {A : Option Addr} {n : Nat} {xs : List Nat} (h : RdU w S A n xs) (hs : Sim w w') : ∃ ys, RdU w' S A n ys := by
 by_cases hn : n = 0
 ·subst hn; exact ⟨[], SlE.nil⟩
 ·obtain ⟨b, o, e, hb, hc⟩ := h.2 (by omega)
  have hch : ∀ i, i < n → ∃ y : Nat, w'.cell? ⟨b, o + i, none⟩ = some (.int .u64 (y : Int)) ∧ y < 18446744073709551616 := fun i hi => by
   obtain ⟨x, hx⟩ := at_some xs i (by rw [h.1]; exact hi)
   obtain ⟨cs, ⟨rfl, hxl⟩, hcc⟩ := hc i x hx
   have h0 := hcc 0 _ rfl
   rw [Nat.mul_one, Nat.add_zero] at h0
   obtain ⟨v', h1, h2⟩ := hs b (o + i) _ h0
   rcases h2 with ⟨x', y, e1, _⟩ | ⟨x', y, _, rfl, hy⟩ | rfl
   ·injection e1 with e1 _; cases e1
   ·exact ⟨y, h1, hy⟩
   ·exact ⟨x, h1, hxl⟩
  obtain ⟨f, hf⟩ := Deep.choose_lt hch
  refine ⟨(List.range n).map f, by simp, fun _ => ⟨b, o, e, hb, fun i x hx => ?_⟩⟩
  have hi : i < n := by have := (List.getElem?_eq_some_iff.1 hx).1; simpa using this
  simp [hi] at hx
  subst hx
  refine ⟨_, ⟨rfl, (hf i hi).2⟩, fun j v hv => ?_⟩
  match j, hv with
  | 0, hv => injection hv with hv; subst hv; rw [Nat.mul_one, Nat.add_zero]; exact (hf i hi).1
theorem RdV.sim {w w' : World} {S : Nat → Prop} {A : Option Addr} {n : Nat} {xs : List (List Int)} (h : RdV w S A n xs) (hs : Sim w w') : ∃ ys, RdV w' S A n ys := by
 by_cases hn : n = 0
 ·subst hn; exact ⟨[], SlE.nil⟩
 ·obtain ⟨b, o, e, hb, hc⟩ := h.2 (by omega)
  have hch : ∀ i, i < n → ∃ ys : List Int, ∃ R m c, w'.cell? ⟨b, o + i, none⟩ = some (.slice R m c) ∧ Rd w' S R m ys ∧ Hd m c := fun i hi => by
   obtain ⟨x, hx⟩ := at_some xs i (by rw [h.1]; exact hi)
   obtain ⟨cs, ⟨R, m, c, rfl, h3, h4⟩, hcc⟩ := hc i x hx
   have h0 := hcc 0 _ rfl
   rw [Nat.mul_one, Nat.add_zero] at h0
   obtain ⟨v', h1, h2⟩ := hs b (o + i) _ h0
   obtain ⟨ys, hy⟩ := h3.sim hs
   rcases h2 with ⟨x', y, e1, _⟩ | ⟨x', y, e1, _⟩ | rfl
   ·cases e1
   ·cases e1
   ·exact ⟨ys, R, m, c, h1, hy, h4⟩
  obtain ⟨f, hf⟩ := Deep.choose_lt hch
  refine ⟨(List.range n).map f, by simp, fun _ => ⟨b, o, e, hb, fun i x hx => ?_⟩⟩
  have hi : i < n := by have := (List.getElem?_eq_some_iff.1 hx).1; simpa using this
  simp [hi] at hx
  subst hx
  obtain ⟨R, m, c, h1, h2, h3⟩ := hf i hi
  refine ⟨[.slice R m c], ⟨R, m, c, rfl, h2, h3⟩, fun j v hv => ?_⟩
  match j, hv with
  | 0, hv => injection hv with hv; subst hv; rw [Nat.mul_one, Nat.add_zero]; exact h1
theorem IsA.sim {w w' : World} {S : Nat → Prop} {v : AV} {a : Au} (h : IsA w S v a) (hs : Sim w w') : ∃ a', IsA w' S v a' := by
 obtain ⟨x1, h1⟩ := h.1.c.sim hs
 obtain ⟨x2, h2⟩ := h.1.t.sim hs
 obtain ⟨x3, h3⟩ := h.2.t.sim hs
 obtain ⟨x4, h4⟩ := h.1.e.sim hs
 obtain ⟨x5, h5⟩ := h.2.e.sim hs
 exact ⟨⟨x1, x2, x3, x4, x5⟩, ⟨h1, h2, h4, h.1.hc, h.1.ht, h.1.he⟩, ⟨h1, h3, h5, h.2.hc, h.2.ht, h.2.he⟩⟩
theorem Plain.frozen {w : World} {b : Nat} (h : Plain w b) (o : Nat) : w.frozen? ⟨b, o, none⟩ = false := by
 obtain ⟨cur, e, h1⟩ := h
 simp [World.frozen?, h1]
theorem plain_set {w : World} {b : Nat} (h : Plain w b) (p : Addr) (u : Value) : Plain (w.setCell p u) b := by
 obtain ⟨cur, e, h1⟩ := h
 unfold Plain
 simp only [World.setCell, Array.getElem?_modify, h1]
 by_cases hb : p.block = b
 ·simp only [hb, if_true, Option.map_some]; split <;> exact ⟨_, _, rfl⟩
 ·simp only [hb, if_false]; exact ⟨_, _, rfl⟩
/-- The blocks of an automaton of its own. -/
def OwnB (B : Nat) (w : World) (b : Nat) : Prop := B ≤ b ∧ b < w.heap.size ∧ Plain w b
theorem ownB_keep {B : Nat} {w w' : World} (h : Below w.heap.size w w') : ∀ b, OwnB B w b → OwnB B w' b := fun b hb => ⟨hb.1, Nat.lt_of_lt_of_le hb.2.1 h.size, hb.2.2.eq (h.block b hb.2.1)⟩
theorem isA_own {B : Nat} {w w' : World} {v : AV} {a : Au} (h : IsA w (OwnB B w) v a) (hb : Below w.heap.size w w') : IsA w' (OwnB B w') v a := h.mono (ownB_keep hb) (fun b hx => hb.block b hx.2.1)
theorem isA_set {B : Nat} {w : World} {v : AV} {a : Au} (h : IsA w (OwnB B w) v a) {g i : Nat} {u u' : Value} (hc : w.cell? ⟨g, i, none⟩ = some u) (hu : IntLike u u') : ∃ a', IsA (w.setCell ⟨g, i, none⟩ u') (OwnB B (w.setCell ⟨g, i, none⟩ u')) v a' := by
 obtain ⟨a', h1⟩ := h.sim (Sim.set hc hu)
 exact ⟨a', h1.mono (fun b hb => ⟨hb.1, by simpa using hb.2.1, plain_set hb.2.2 _ _⟩) (Kept.refl _ _)⟩
def TurnR (w : World) (e : Ending) (w' : World) : Prop := ∃ (v' : AV) (a' : Au), e = .returned (.agg v'.cells) ∧ IsA w' (fun b => w.heap.size ≤ b ∧ b < w'.heap.size) v' a' ∧ a'.fore.length ≤ 8 ∧ a'.back.length ≤ 8 ∧ Below w.heap.size w w'
theorem bits_and255 (z : Int) : bits .and .i64 z 255 = z % 256 := by
 show IntKind.i64.wrap ((BitVec.ofInt 64 z &&& BitVec.ofInt 64 (255 : Int)).toNat : Int) = _
 have e2 : (BitVec.ofInt 64 (255 : Int)).toNat = 255 := by decide
 rw [BitVec.toNat_and, e2, IntKind.wrap_i64]
 have h : (BitVec.ofInt 64 z).toNat &&& 255 = (BitVec.ofInt 64 z).toNat % 256 := Nat.and_two_pow_sub_one_eq_mod _ 8
 rw [h, BitVec.toNat_ofInt]
 omega
theorem wrap_u64_nat {q : Nat} (h : q < 18446744073709551616) : IntKind.u64.wrap (q : Int) = (q : Int) := by
 simp [IntKind.wrap, IntKind.signed, IntKind.bits]
 omega
theorem idx_of (t : Int) {n : Nat} (hn : 0 < n) : ∃ m k : Nat, bits .and .i64 t 65535 = (m : Int) ∧ (m : Int).tmod (n : Int) = (k : Int) ∧ k < n := by
 refine ⟨(t % 65536).toNat, (t % 65536).toNat % n, by rw [and65535]; omega, ?_, Nat.mod_lt _ hn⟩
 rw [Int.tmod_eq_emod_of_nonneg (by omega)]
 omega

set_option maxRecDepth 100000 in
set_option maxHeartbeats 4000000 in
theorem turned_c (v : AV) (a : Au) (t0 t1 t2 t3 : Int) (w : World) (h : IsA w (lo w.heap.size) v a) : Calls Tryd.prog 18 #[.agg v.cells, .agg #[.int .i64 t0, .int .i64 t1, .int .i64 t2, .int .i64 t3]] w (TurnR w) := by
 have b0 : Below w.heap.size w (((w.alloc (.cells #[.slice v.ca v.cn v.cc, .slice v.fa v.fn v.fc, .slice v.ba v.bn v.bc, .slice v.ea v.en v.ec, .slice v.ga v.gn v.gc] 38)).alloc (.cells #[.int .i64 t0, .int .i64 t1, .int .i64 t2, .int .i64 t3] 46)).alloc (.cells #[.slice none 0 0, .slice none 0 0, .slice none 0 0, .slice none 0 0, .slice none 0 0] 38)) := below_lit _ _ (below_lit _ _ (below_lit _ _ (Below.refl _ _) _) _) _
 have HF := Lib.hid (fewP_c v a _ (h.call b0))
 have kx0 := ((Bk.new w 38 #[.slice v.ca v.cn v.cc, .slice v.fa v.fn v.fc, .slice v.ba v.bn v.bc, .slice v.ea v.en v.ec, .slice v.ga v.gn v.gc]).alloc (.cells #[.int .i64 t0, .int .i64 t1, .int .i64 t2, .int .i64 t3] 46)).alloc (.cells #[.slice none 0 0, .slice none 0 0, .slice none 0 0, .slice none 0 0, .slice none 0 0] 38)
 have kt0 := (Bk.new (w.alloc (.cells #[.slice v.ca v.cn v.cc, .slice v.fa v.fn v.fc, .slice v.ba v.bn v.bc, .slice v.ea v.en v.ec, .slice v.ga v.gn v.gc] 38)) 46 #[.int .i64 t0, .int .i64 t1, .int .i64 t2, .int .i64 t3]).alloc (.cells #[.slice none 0 0, .slice none 0 0, .slice none 0 0, .slice none 0 0, .slice none 0 0] 38)
 have kr0 := Bk.new ((w.alloc (.cells #[.slice v.ca v.cn v.cc, .slice v.fa v.fn v.fc, .slice v.ba v.bn v.bc, .slice v.ea v.en v.ec, .slice v.ga v.gn v.gc] 38)).alloc (.cells #[.int .i64 t0, .int .i64 t1, .int .i64 t2, .int .i64 t3] 46)) 38 #[.slice none 0 0, .slice none 0 0, .slice none 0 0, .slice none 0 0, .slice none 0 0]
 rw [World.size_alloc] at kt0
 rw [World.size_alloc, World.size_alloc] at kr0
 clear h
 unfold AV.cells at *
 go_enter Tryd.func18, Tryd.ntmps18
 go_wp2_with fail
 refine HF.out.mono ?_
 rintro e w2 ⟨u, rfl, hA2, bn⟩
 have b2 := below_call b0 bn
 have kx2 := kx0.below bn kx0.lt
 have kt2 := kt0.below bn kt0.lt
 have kr2 := kr0.below bn kr0.lt
 rw [show ((((w.alloc (.cells #[.slice v.ca v.cn v.cc, .slice v.fa v.fn v.fc, .slice v.ba v.bn v.bc, .slice v.ea v.en v.ec, .slice v.ga v.gn v.gc] 38)).alloc (.cells #[.int .i64 t0, .int .i64 t1, .int .i64 t2, .int .i64 t3] 46)).alloc (.cells #[.slice none 0 0, .slice none 0 0, .slice none 0 0, .slice none 0 0, .slice none 0 0] 38))).heap.size = w.heap.size + 1 + 1 + 1 by simp only [World.size_alloc]] at hA2
 clear HF bn b0 kx0 kt0 kr0
 obtain ⟨ca, cn, cc, fa, fn, fc, ba, bn, bc, ea, en, ec, ga, gn, gc⟩ := u
 unfold AV.cells at *
 dsimp only at *
 have x0 := box_cells kx2 0 rfl
 have xf0 := kx2.frozen 0
 have x1 := box_cells kx2 1 rfl
 have xf1 := kx2.frozen 1
 have x2 := box_cells kx2 2 rfl
 have xf2 := kx2.frozen 2
 have x3 := box_cells kx2 3 rfl
 have xf3 := kx2.frozen 3
 have x4 := box_cells kx2 4 rfl
 have xf4 := kx2.frozen 4
 have kx3 := store5_bk kx2 (.slice ca cn cc) (.slice fa fn fc) (.slice ba bn bc) (.slice ea en ec) (.slice ga gn gc)
 have b3 := store5_below b2 (Nat.le_refl w.heap.size) (.slice ca cn cc) (.slice fa fn fc) (.slice ba bn bc) (.slice ea en ec) (.slice ga gn gc)
 have hk3 := store5_kept (S := fun _ => True) (W := w2) w.heap.size (.slice ca cn cc) (.slice fa fn fc) (.slice ba bn bc) (.slice ea en ec) (.slice ga gn gc)
 have hA3 : IsA (store5 w2 w.heap.size (.slice ca cn cc) (.slice fa fn fc) (.slice ba bn bc) (.slice ea en ec) (.slice ga gn gc)) (OwnB (w.heap.size + 1 + 1 + 1) (store5 w2 w.heap.size (.slice ca cn cc) (.slice fa fn fc) (.slice ba bn bc) (.slice ea en ec) (.slice ga gn gc))) ⟨ca, cn, cc, fa, fn, fc, ba, bn, bc, ea, en, ec, ga, gn, gc⟩ (fewA a) := hA2.mono (fun b hb => ⟨hb.1, by rw [hk3.2]; exact hb.2.1, hb.2.2.eq (hk3.1 b ⟨trivial, by have := hb.1; omega⟩)⟩) (fun b hb => hk3.1 b ⟨trivial, by have := hb.1; omega⟩)
 have kt3 : Bk (store5 w2 w.heap.size (.slice ca cn cc) (.slice fa fn fc) (.slice ba bn bc) (.slice ea en ec) (.slice ga gn gc)) (w.heap.size + 1) 46 #[.int .i64 t0, .int .i64 t1, .int .i64 t2, .int .i64 t3] := (hk3.1 _ ⟨trivial, by omega⟩).trans kt2
 have kr3 : Bk (store5 w2 w.heap.size (.slice ca cn cc) (.slice fa fn fc) (.slice ba bn bc) (.slice ea en ec) (.slice ga gn gc)) (w.heap.size + 1 + 1) 38 #[.slice none 0 0, .slice none 0 0, .slice none 0 0, .slice none 0 0, .slice none 0 0] := (hk3.1 _ ⟨trivial, by omega⟩).trans kr2
 have hfn : fn ≤ 8 := by have h1 := hA2.1.t.len; change _ = fn at h1; rw [← h1]; unfold fewA; simp; omega
 have hbn : bn ≤ 8 := by have h1 := hA2.2.t.len; change _ = bn at h1; rw [← h1]; unfold fewA; simp; omega
 have hs3 := kr3.lt
 unfold store5 at kx3 b3 hA3 kt3 kr3 hs3
 have K3 := Lib.hid kx3; have B3 := Lib.hid b3; have HA3 := Lib.hid hA3; have KT3 := Lib.hid kt3; have KR3 := Lib.hid kr3; have HS3 := Lib.hid hs3
 clear hk3 hA2 b2 kx2 kt2 kr2 kx3 b3 hA3 kt3 kr3 hs3
 go_upto_region 2 with fail
 clear x0 x1 x2 x3 x4 xf0 xf1 xf2 xf3 xf4
 replace K3 := K3.out; replace B3 := B3.out; replace HA3 := HA3.out; replace KT3 := KT3.out; replace KR3 := KR3.out; replace HS3 := HS3.out
 generalize (World.setCell _ _ _) = w3 at *
 have KX := Lib.hid K3; have KT := Lib.hid KT3; have BL := Lib.hid B3; have HA := Lib.hid HA3
 have BZ := Lib.hid fun (b : Nat) (_ : b < w.heap.size + 1 + 1 + 1) => (rfl : w3.heap[b]? = w3.heap[b]?)
 have KR := Lib.hid fun (W : World) (hb : ∀ b, b < w.heap.size + 1 + 1 + 1 → W.heap[b]? = w3.heap[b]?) => (show Bk W (w.heap.size + 1 + 1) 38 #[.slice none 0 0, .slice none 0 0, .slice none 0 0, .slice none 0 0, .slice none 0 0] from (hb _ (by omega)).trans KR3)
 have kx := K3; have kt := KT3
 clear K3 KT3 KR3 B3 HA3
 have x0 := box_cells kx 0 rfl
 have x1 := box_cells kx 1 rfl
 have x2 := box_cells kx 2 rfl
 have x3 := box_cells kx 3 rfl
 have x4 := box_cells kx 4 rfl
 have z0 := box_cells kt 0 rfl
 have z1 := box_cells kt 1 rfl
 have z2 := box_cells kt 2 rfl
 have z3 := box_cells kt 3 rfl
 obtain ⟨z, hz⟩ : ∃ z : Int, t0 % 8 = z := ⟨_, rfl⟩
 have ez : bits .and .i64 t0 7 = z := by rw [and7]; exact hz
 have hz8 : z = 0 ∨ z = 1 ∨ z = 2 ∨ z = 3 ∨ z = 4 ∨ z = 5 ∨ z = 6 ∨ z = 7 := by omega
 clear hz
 rcases hz8 with rfl | rfl | rfl | rfl | rfl | rfl | rfl | rfl
 ·by_cases h0 : cn = 0
  ·have inn : ¬ ((0 : Int) < (cn : Int)) := by omega
   clear h0
   have bz : ∀ b, b < w.heap.size + 1 + 1 + 1 → w3.heap[b]? = w3.heap[b]? := fun _ _ => rfl
   have hA := HA.out
   have bl := BL.out
   obtain ⟨a', ha'⟩ : ∃ a', fewA a = a' := ⟨_, rfl⟩
   rw [ha'] at hA
   clear ha'
   have kr := KR.out w3 bz
   have y0 := box_cells kr 0 rfl
   have f0 := kr.frozen 0
   have y1 := box_cells kr 1 rfl
   have f1 := kr.frozen 1
   have y2 := box_cells kr 2 rfl
   have f2 := kr.frozen 2
   have y3 := box_cells kr 3 rfl
   have f3 := kr.frozen 3
   have y4 := box_cells kr 4 rfl
   have f4 := kr.frozen 4
   go_wp2_with fail
   have hk := store5_bk kr (.slice ca cn cc) (.slice fa fn fc) (.slice ba bn bc) (.slice ea en ec) (.slice ga gn gc)
   have hbl := store5_below (w := w) (g := w.heap.size + 1 + 1) bl (by omega) (.slice ca cn cc) (.slice fa fn fc) (.slice ba bn bc) (.slice ea en ec) (.slice ga gn gc)
   obtain ⟨hkp, hsz⟩ := store5_kept (S := fun _ => True) (W := w3) (w.heap.size + 1 + 1) (.slice ca cn cc) (.slice fa fn fc) (.slice ba bn bc) (.slice ea en ec) (.slice ga gn gc)
   unfold store5 at hk hbl hkp hsz
   clear x0 x1 x2 x3 x4 y0 y1 y2 y3 y4 f0 f1 f2 f3 f4 bz kr kx kt
   generalize (World.setCell _ _ _) = WE at *
   refine bodyPost_ret (results_cell_row rfl _ _ (w.heap.size + 1 + 1) 38 _ (0, 0) _ rfl hk Tryd.underlying38 rfl (by kernel_rfl)) rfl ⟨⟨ca, cn, cc, fa, fn, fc, ba, bn, bc, ea, en, ec, ga, gn, gc⟩, a', rfl, hA.mono (fun b hb => ⟨by have := hb.1; omega, by have := hb.2.1; omega⟩) (fun b hb => hkp b ⟨trivial, by have := hb.1; omega⟩), by have h1 := hA.1.t.len; exact h1 ▸ hfn, by have h1 := hA.2.t.len; exact h1 ▸ hbn, hbl⟩

  ·have inn : (0 : Int) < (cn : Int) := by omega
   obtain ⟨m, k, e1, e2, hk⟩ := idx_of t1 (show 0 < cn by omega)
   obtain ⟨bq, oq, hca, hS, hc⟩ := HA.out.1.c.pos (show 0 < cn by omega)
   have hca' : ca = some ⟨bq, oq, none⟩ := hca
   subst hca'
   obtain ⟨x, hx⟩ := at_some (fewA a).cls k (by have h1 := HA.out.1.c.len; change _ = cn at h1; omega)
   obtain ⟨cs, rfl, hcc⟩ := hc k x hx
   have hT := hcc 0 _ rfl
   rw [Nat.mul_one, Nat.add_zero] at hT
   have hPl : Plain w3 bq := hS.2.2
   have hLt : bq < w3.heap.size := hS.2.1
   have hBc : w.heap.size + 1 + 1 + 1 ≤ bq := hS.1
   have kz : (0 : Int) ≤ (k : Int) := by omega
   have kn : (k : Int) < (cn : Int) := by omega
   have e0 : ¬ (cn = 0) := h0
   clear hc hcc hx hS
   go_upto_region 5 with fail
   have HS := Lib.hid fun (W : World) (bW : Below w3.heap.size w3 W) => (show W.cell? ⟨w.heap.size, 0, none⟩ = some (.slice (some ⟨bq, oq, none⟩) cn cc) ∧ W.cell? ⟨w.heap.size + 1, 1, none⟩ = some (.int .i64 t1) ∧ W.cell? ⟨w.heap.size + 1, 3, none⟩ = some (.int .i64 t3) from ⟨cell_call x0 bW, cell_call z1 bW, cell_call z3 bW⟩)
   have bb := Below.refl w3.heap.size w3
   refine wp_region_held_drew (S := fun w' => w'.cell? ⟨w.heap.size, 0, none⟩ = some (.slice (some ⟨bq, oq, none⟩) cn cc) ∧ w'.cell? ⟨w.heap.size + 1, 1, none⟩ = some (.int .i64 t1) ∧ w'.cell? ⟨w.heap.size + 1, 3, none⟩ = some (.int .i64 t3)) (by kernel_rfl) ?_ (fun hHeld => ?_)
   ·exact HS.out _ (below_drewN bb 1)
   replace bb := below_drewN bb 1
   change Below _ _ w3.drew at bb
   generalize hw0 : w3.drew = W0 at hHeld bb ⊢
   clear hw0
   refine tkB 0 (v := ?_) (by assumption) ?_ ?_
   rotate_left 1
   ·intro w hSw; (try dsimp only at hSw); go_simp; try with_reducible rfl
   refine tkB 1 (v := ?_) (by assumption) ?_ ?_
   rotate_left 1
   ·intro w hSw; (try dsimp only at hSw); go_simp; try with_reducible rfl
   refine tkB 2 (v := ?_) (by assumption) ?_ ?_
   rotate_left 1
   ·intro w hSw; (try dsimp only at hSw); go_simp; try with_reducible rfl
   refine tkB 3 (v := ?_) (by assumption) ?_ ?_
   rotate_left 1
   ·intro w hSw; (try dsimp only at hSw); go_simp; try with_reducible rfl
   refine tkB 4 (v := ?_) (by assumption) ?_ ?_
   rotate_left 1
   ·intro w hSw; (try dsimp only at hSw); go_simp; try with_reducible rfl
   refine tkB 5 (v := ?_) (by assumption) ?_ ?_
   rotate_left 1
   ·intro w hSw; (try dsimp only at hSw); go_simp; try with_reducible rfl
   refine tkB 6 (v := ?_) (by assumption) ?_ ?_
   rotate_left 1
   ·intro w hSw; (try dsimp only at hSw); go_simp; try with_reducible rfl
   refine tkB 7 (v := ?_) (by assumption) ?_ ?_
   rotate_left 1
   ·intro w hSw; (try dsimp only at hSw); go_simp; try with_reducible rfl
   refine tkB 8 (v := ?_) (by assumption) ?_ ?_
   rotate_left 1
   ·intro w hSw; (try dsimp only at hSw); go_simp; try with_reducible rfl
   refine tkB 9 (v := ?_) (by assumption) ?_ ?_
   rotate_left 1
   ·intro w hSw; (try dsimp only at hSw); go_simp; try with_reducible rfl
   refine tkB 10 (v := ?_) (by assumption) ?_ ?_
   rotate_left 1
   ·intro w hSw; (try dsimp only at hSw); go_simp; try with_reducible rfl
   refine tkB 11 (v := ?_) (by assumption) ?_ ?_
   rotate_left 1
   ·intro w hSw; (try dsimp only at hSw); go_simp; try with_reducible rfl
   have yT := cell_call hT bb
   have fT := (hPl.eq (bb.block bq hLt)).frozen (oq + k)
   have q0 := cell_call x0 bb
   have q1 := cell_call z1 bb
   have q2 := cell_call z3 bb
   refine wpAnyH_ready (rs := [12]) (by kernel_rfl) (by simp) ?_
   refine AllReadyH.cons (by simp only [List.getElem?_toArray]; rfl) (fun K hK => ?_) AllReadyH.nil
   refine wanted_pos (by kernel_rfl) ?_
   go_simp
   clear hHeld
   refine hK.out _ _ ?_ (fun hHeld => ?_)
   ·exact ⟨(World.cell?_of_block (a := ⟨w.heap.size, 0, none⟩) (Below.heap_setCell W0 ⟨bq, oq + k, none⟩ _ (w.heap.size) (by show w.heap.size ≠ bq; omega))).trans q0, (World.cell?_of_block (a := ⟨w.heap.size + 1, 1, none⟩) (Below.heap_setCell W0 ⟨bq, oq + k, none⟩ _ (w.heap.size + 1) (by show w.heap.size + 1 ≠ bq; omega))).trans q1, (World.cell?_of_block (a := ⟨w.heap.size + 1, 3, none⟩) (Below.heap_setCell W0 ⟨bq, oq + k, none⟩ _ (w.heap.size + 1) (by show w.heap.size + 1 ≠ bq; omega))).trans q2⟩
   clear hK K
   try conv => arg 8; simp only [Act.put, List.setIfInBounds_toArray, List.set_cons_zero, List.set_cons_succ]
   refine wpAnyH_done (by kernel_rfl) ?_ _
   have bz : ∀ b, b < w.heap.size + 1 + 1 + 1 → (W0.setCell ⟨bq, oq + k, none⟩ (.int .i64 t3)).heap[b]? = w3.heap[b]? := fun c hc => (Below.heap_setCell W0 ⟨bq, oq + k, none⟩ _ c (by show c ≠ bq; omega)).trans ((bb.block c (by omega)).trans (BZ.out c hc))
   have kx : Bk (W0.setCell ⟨bq, oq + k, none⟩ (.int .i64 t3)) w.heap.size 38 #[.slice (some ⟨bq, oq, none⟩) cn cc, .slice fa fn fc, .slice ba bn bc, .slice ea en ec, .slice ga gn gc] := ((Below.heap_setCell W0 ⟨bq, oq + k, none⟩ _ w.heap.size (by show w.heap.size ≠ bq; omega)).trans (bb.block w.heap.size (by omega))).trans KX.out
   have bl : Below w.heap.size w (W0.setCell ⟨bq, oq + k, none⟩ (.int .i64 t3)) := (below_call BL.out bb).setCell (p := ⟨bq, oq + k, none⟩) (by show w.heap.size ≤ bq; omega) _
   obtain ⟨a', hA⟩ := isA_set (u' := .int .i64 t3) (isA_own HA.out bb) yT (.inl ⟨x, t3, rfl, rfl⟩)
   clear hHeld yT fT HS bb q0 q1 q2
   obtain ⟨W5, hW5⟩ : ∃ W5, W0.setCell ⟨bq, oq + k, none⟩ (.int .i64 t3) = W5 := ⟨_, rfl⟩
   rw [hW5] at bz kx bl hA ⊢
   clear hW5
   have kr := KR.out W5 bz
   have x0 := box_cells kx 0 rfl
   have x1 := box_cells kx 1 rfl
   have x2 := box_cells kx 2 rfl
   have x3 := box_cells kx 3 rfl
   have x4 := box_cells kx 4 rfl
   have y0 := box_cells kr 0 rfl
   have f0 := kr.frozen 0
   have y1 := box_cells kr 1 rfl
   have f1 := kr.frozen 1
   have y2 := box_cells kr 2 rfl
   have f2 := kr.frozen 2
   have y3 := box_cells kr 3 rfl
   have f3 := kr.frozen 3
   have y4 := box_cells kr 4 rfl
   have f4 := kr.frozen 4
   go_wp2_with fail
   have hk := store5_bk kr (.slice (some ⟨bq, oq, none⟩) cn cc) (.slice fa fn fc) (.slice ba bn bc) (.slice ea en ec) (.slice ga gn gc)
   have hbl := store5_below (w := w) (g := w.heap.size + 1 + 1) bl (by omega) (.slice (some ⟨bq, oq, none⟩) cn cc) (.slice fa fn fc) (.slice ba bn bc) (.slice ea en ec) (.slice ga gn gc)
   obtain ⟨hkp, hsz⟩ := store5_kept (S := fun _ => True) (W := W5) (w.heap.size + 1 + 1) (.slice (some ⟨bq, oq, none⟩) cn cc) (.slice fa fn fc) (.slice ba bn bc) (.slice ea en ec) (.slice ga gn gc)
   unfold store5 at hk hbl hkp hsz
   clear x0 x1 x2 x3 x4 y0 y1 y2 y3 y4 f0 f1 f2 f3 f4 bz kr kx kt
   generalize (World.setCell _ _ _) = WE at *
   refine bodyPost_ret (results_cell_row rfl _ _ (w.heap.size + 1 + 1) 38 _ (0, 0) _ rfl hk Tryd.underlying38 rfl (by kernel_rfl)) rfl ⟨⟨(some ⟨bq, oq, none⟩), cn, cc, fa, fn, fc, ba, bn, bc, ea, en, ec, ga, gn, gc⟩, a', rfl, hA.mono (fun b hb => ⟨by have := hb.1; omega, by have := hb.2.1; omega⟩) (fun b hb => hkp b ⟨trivial, by have := hb.1; omega⟩), by have h1 := hA.1.t.len; exact h1 ▸ hfn, by have h1 := hA.2.t.len; exact h1 ▸ hbn, hbl⟩

 ·by_cases h0 : fn = 0
  ·have inn : ¬ ((0 : Int) < (fn : Int)) := by omega
   clear h0
   have bz : ∀ b, b < w.heap.size + 1 + 1 + 1 → w3.heap[b]? = w3.heap[b]? := fun _ _ => rfl
   have hA := HA.out
   have bl := BL.out
   obtain ⟨a', ha'⟩ : ∃ a', fewA a = a' := ⟨_, rfl⟩
   rw [ha'] at hA
   clear ha'
   have kr := KR.out w3 bz
   have y0 := box_cells kr 0 rfl
   have f0 := kr.frozen 0
   have y1 := box_cells kr 1 rfl
   have f1 := kr.frozen 1
   have y2 := box_cells kr 2 rfl
   have f2 := kr.frozen 2
   have y3 := box_cells kr 3 rfl
   have f3 := kr.frozen 3
   have y4 := box_cells kr 4 rfl
   have f4 := kr.frozen 4
   go_wp2_with fail
   have hk := store5_bk kr (.slice ca cn cc) (.slice fa fn fc) (.slice ba bn bc) (.slice ea en ec) (.slice ga gn gc)
   have hbl := store5_below (w := w) (g := w.heap.size + 1 + 1) bl (by omega) (.slice ca cn cc) (.slice fa fn fc) (.slice ba bn bc) (.slice ea en ec) (.slice ga gn gc)
   obtain ⟨hkp, hsz⟩ := store5_kept (S := fun _ => True) (W := w3) (w.heap.size + 1 + 1) (.slice ca cn cc) (.slice fa fn fc) (.slice ba bn bc) (.slice ea en ec) (.slice ga gn gc)
   unfold store5 at hk hbl hkp hsz
   clear x0 x1 x2 x3 x4 y0 y1 y2 y3 y4 f0 f1 f2 f3 f4 bz kr kx kt
   generalize (World.setCell _ _ _) = WE at *
   refine bodyPost_ret (results_cell_row rfl _ _ (w.heap.size + 1 + 1) 38 _ (0, 0) _ rfl hk Tryd.underlying38 rfl (by kernel_rfl)) rfl ⟨⟨ca, cn, cc, fa, fn, fc, ba, bn, bc, ea, en, ec, ga, gn, gc⟩, a', rfl, hA.mono (fun b hb => ⟨by have := hb.1; omega, by have := hb.2.1; omega⟩) (fun b hb => hkp b ⟨trivial, by have := hb.1; omega⟩), by have h1 := hA.1.t.len; exact h1 ▸ hfn, by have h1 := hA.2.t.len; exact h1 ▸ hbn, hbl⟩

  ·have inn : (0 : Int) < (fn : Int) := by omega
   obtain ⟨m, k, e1, e2, hk⟩ := idx_of t1 (show 0 < fn by omega)
   obtain ⟨bf, of', hca, hS, hc⟩ := HA.out.1.t.pos (show 0 < fn by omega)
   have hca' : fa = some ⟨bf, of', none⟩ := hca
   subst hca'
   obtain ⟨row, hx⟩ := at_some (fewA a).fore k (by have h1 := HA.out.1.t.len; change _ = fn at h1; omega)
   obtain ⟨cs, ⟨R, rn, rc, rfl, hR, hRd⟩, hcc⟩ := hc k row hx
   have xr := hcc 0 _ rfl
   rw [Nat.mul_one, Nat.add_zero] at xr
   have kz : (0 : Int) ≤ (k : Int) := by omega
   have kn : (k : Int) < (fn : Int) := by omega
   have e0 : ¬ (fn = 0) := h0
   have hrl := hR.len
   clear hc hcc hx hS
   go_upto_region 8 with fail
   have HS := Lib.hid fun (W : World) (bW : Below w3.heap.size w3 W) => (show W.cell? ⟨w.heap.size, 1, none⟩ = some (.slice (some ⟨bf, of', none⟩) fn fc) ∧ W.cell? ⟨w.heap.size + 1, 1, none⟩ = some (.int .i64 t1) ∧ W.cell? ⟨bf, of' + k, none⟩ = some (.slice R rn rc) from ⟨cell_call x1 bW, cell_call z1 bW, cell_call xr bW⟩)
   have bb := Below.refl w3.heap.size w3
   refine wp_region_held_drew (S := fun w' => w'.cell? ⟨w.heap.size, 1, none⟩ = some (.slice (some ⟨bf, of', none⟩) fn fc) ∧ w'.cell? ⟨w.heap.size + 1, 1, none⟩ = some (.int .i64 t1) ∧ w'.cell? ⟨bf, of' + k, none⟩ = some (.slice R rn rc)) (by kernel_rfl) ?_ (fun hHeld => ?_)
   ·exact HS.out _ (below_drewN bb 1)
   replace bb := below_drewN bb 1
   change Below _ _ w3.drew at bb
   generalize hw0 : w3.drew = W0 at hHeld bb ⊢
   clear hw0
   refine tkB 0 (v := ?_) (by assumption) ?_ ?_
   rotate_left 1
   ·intro w hSw; (try dsimp only at hSw); go_simp; try with_reducible rfl
   refine tkB 1 (v := ?_) (by assumption) ?_ ?_
   rotate_left 1
   ·intro w hSw; (try dsimp only at hSw); go_simp; try with_reducible rfl
   refine tkB 2 (v := ?_) (by assumption) ?_ ?_
   rotate_left 1
   ·intro w hSw; (try dsimp only at hSw); go_simp; try with_reducible rfl
   refine tkB 3 (v := ?_) (by assumption) ?_ ?_
   rotate_left 1
   ·intro w hSw; (try dsimp only at hSw); go_simp; try with_reducible rfl
   refine tkB 4 (v := ?_) (by assumption) ?_ ?_
   rotate_left 1
   ·intro w hSw; (try dsimp only at hSw); go_simp; try with_reducible rfl
   refine tkB 5 (v := ?_) (by assumption) ?_ ?_
   rotate_left 1
   ·intro w hSw; (try dsimp only at hSw); go_simp; try with_reducible rfl
   refine tkB 6 (v := ?_) (by assumption) ?_ ?_
   rotate_left 1
   ·intro w hSw; (try dsimp only at hSw); go_simp; try with_reducible rfl
   refine tkB 7 (v := ?_) (by assumption) ?_ ?_
   rotate_left 1
   ·intro w hSw; (try dsimp only at hSw); go_simp; try with_reducible rfl
   refine tkB 8 (v := ?_) (by assumption) ?_ ?_
   rotate_left 1
   ·intro w hSw; (try dsimp only at hSw); go_simp; try with_reducible rfl
   refine tkB 9 (v := ?_) (by assumption) ?_ ?_
   rotate_left 1
   ·intro w hSw; (try dsimp only at hSw); go_simp; try with_reducible rfl
   refine tkB 10 (v := ?_) (by assumption) ?_ ?_
   rotate_left 1
   ·intro w hSw; (try dsimp only at hSw); go_simp; try with_reducible rfl
   refine tkB 11 (v := ?_) (by assumption) ?_ ?_
   rotate_left 1
   ·intro w hSw; (try dsimp only at hSw); go_simp; try with_reducible rfl
   refine wpAnyH_done (by kernel_rfl) ?_ _
   have BZ2 := Lib.hid fun (b : Nat) (hb : b < w.heap.size + 1 + 1 + 1) => (show W0.heap[b]? = w3.heap[b]? from (bb.block b (by omega)).trans (BZ.out b hb))
   have HA2 := Lib.hid (isA_own HA.out bb)
   have BL2 := Lib.hid (below_call BL.out bb)
   have KX2 : Bk W0 w.heap.size 38 #[.slice ca cn cc, .slice (some ⟨bf, of', none⟩) fn fc, .slice ba bn bc, .slice ea en ec, .slice ga gn gc] := (bb.block _ (by omega)).trans KX.out
   replace hR := hR.mono (ownB_keep bb) (fun b hx => bb.block b hx.2.1)
   have kt2 : Bk W0 (w.heap.size + 1) 46 #[.int .i64 t0, .int .i64 t1, .int .i64 t2, .int .i64 t3] := (bb.block _ (by omega)).trans KT.out
   have hsz := bb.size
   clear HS hHeld xr x0 x1 x2 x3 x4 z0 z1 z2 z3 bb kx kt
   have KXX := Lib.hid KX2
   have kx := KX2
   have kt := kt2
   clear KX2 kt2
   have x0 := box_cells kx 0 rfl
   have x1 := box_cells kx 1 rfl
   have x2 := box_cells kx 2 rfl
   have x3 := box_cells kx 3 rfl
   have x4 := box_cells kx 4 rfl
   have z0 := box_cells kt 0 rfl
   have z1 := box_cells kt 1 rfl
   have z2 := box_cells kt 2 rfl
   have z3 := box_cells kt 3 rfl
   by_cases r0 : rn = 0
   ·have inn2 : ¬ ((0 : Int) < (rn : Int)) := by omega
    clear r0
    have bz := BZ2.out
    have hA := HA2.out
    have bl := BL2.out
    obtain ⟨a', ha'⟩ : ∃ a', fewA a = a' := ⟨_, rfl⟩
    rw [ha'] at hA
    clear ha'
    have kr := KR.out W0 bz
    have y0 := box_cells kr 0 rfl
    have f0 := kr.frozen 0
    have y1 := box_cells kr 1 rfl
    have f1 := kr.frozen 1
    have y2 := box_cells kr 2 rfl
    have f2 := kr.frozen 2
    have y3 := box_cells kr 3 rfl
    have f3 := kr.frozen 3
    have y4 := box_cells kr 4 rfl
    have f4 := kr.frozen 4
    go_wp2_with fail
    have hk := store5_bk kr (.slice ca cn cc) (.slice (some ⟨bf, of', none⟩) fn fc) (.slice ba bn bc) (.slice ea en ec) (.slice ga gn gc)
    have hbl := store5_below (w := w) (g := w.heap.size + 1 + 1) bl (by omega) (.slice ca cn cc) (.slice (some ⟨bf, of', none⟩) fn fc) (.slice ba bn bc) (.slice ea en ec) (.slice ga gn gc)
    obtain ⟨hkp, hsz⟩ := store5_kept (S := fun _ => True) (W := W0) (w.heap.size + 1 + 1) (.slice ca cn cc) (.slice (some ⟨bf, of', none⟩) fn fc) (.slice ba bn bc) (.slice ea en ec) (.slice ga gn gc)
    unfold store5 at hk hbl hkp hsz
    clear x0 x1 x2 x3 x4 y0 y1 y2 y3 y4 f0 f1 f2 f3 f4 bz kr kx kt
    generalize (World.setCell _ _ _) = WE at *
    refine bodyPost_ret (results_cell_row rfl _ _ (w.heap.size + 1 + 1) 38 _ (0, 0) _ rfl hk Tryd.underlying38 rfl (by kernel_rfl)) rfl ⟨⟨ca, cn, cc, (some ⟨bf, of', none⟩), fn, fc, ba, bn, bc, ea, en, ec, ga, gn, gc⟩, a', rfl, hA.mono (fun b hb => ⟨by have := hb.1; omega, by have := hb.2.1; omega⟩) (fun b hb => hkp b ⟨trivial, by have := hb.1; omega⟩), by have h1 := hA.1.t.len; exact h1 ▸ hfn, by have h1 := hA.2.t.len; exact h1 ▸ hbn, hbl⟩

   ·have inn2 : (0 : Int) < (rn : Int) := by omega
    obtain ⟨m2, j, e3, e4, hj⟩ := idx_of t2 (show 0 < rn by omega)
    obtain ⟨bq, oq, hra, hS, hc⟩ := hR.pos (show 0 < rn by omega)
    subst hra
    obtain ⟨x, hx⟩ := at_some row j (by rw [hrl]; exact hj)
    obtain ⟨cs, rfl, hcc⟩ := hc j x hx
    have hT := hcc 0 _ rfl
    rw [Nat.mul_one, Nat.add_zero] at hT
    have hPl : Plain W0 bq := hS.2.2
    have hLt : bq < W0.heap.size := hS.2.1
    have hBc : w.heap.size + 1 + 1 + 1 ≤ bq := hS.1
    have jz : (0 : Int) ≤ (j : Int) := by omega
    have jn : (j : Int) < (rn : Int) := by omega
    have e5 : ¬ (rn = 0) := r0
    clear hc hcc hx hS hR BZ KX HA BL
    generalize W0 = w4 at *
    go_upto_region 10 with fail
    have HS := Lib.hid fun (W : World) (bW : Below w4.heap.size w4 W) => (show W.cell? ⟨w.heap.size + 1, 2, none⟩ = some (.int .i64 t2) ∧ W.cell? ⟨w.heap.size + 1, 3, none⟩ = some (.int .i64 t3) from ⟨cell_call z2 bW, cell_call z3 bW⟩)
    have bb := Below.refl w4.heap.size w4
    refine wp_region_held_drew (S := fun w' => w'.cell? ⟨w.heap.size + 1, 2, none⟩ = some (.int .i64 t2) ∧ w'.cell? ⟨w.heap.size + 1, 3, none⟩ = some (.int .i64 t3)) (by kernel_rfl) ?_ (fun hHeld => ?_)
    ·exact HS.out _ (below_drewN bb 1)
    replace bb := below_drewN bb 1
    change Below _ _ w4.drew at bb
    generalize hw0 : w4.drew = W0 at hHeld bb ⊢
    clear hw0
    refine tkB 0 (v := ?_) (by assumption) ?_ ?_
    rotate_left 1
    ·intro w hSw; (try dsimp only at hSw); go_simp; try with_reducible rfl
    refine tkB 1 (v := ?_) (by assumption) ?_ ?_
    rotate_left 1
    ·intro w hSw; (try dsimp only at hSw); go_simp; try with_reducible rfl
    refine tkB 2 (v := ?_) (by assumption) ?_ ?_
    rotate_left 1
    ·intro w hSw; (try dsimp only at hSw); go_simp; try with_reducible rfl
    refine tkB 3 (v := ?_) (by assumption) ?_ ?_
    rotate_left 1
    ·intro w hSw; (try dsimp only at hSw); go_simp; try with_reducible rfl
    refine tkB 4 (v := ?_) (by assumption) ?_ ?_
    rotate_left 1
    ·intro w hSw; (try dsimp only at hSw); go_simp; try with_reducible rfl
    refine tkB 5 (v := ?_) (by assumption) ?_ ?_
    rotate_left 1
    ·intro w hSw; (try dsimp only at hSw); go_simp; try with_reducible rfl
    refine tkB 6 (v := ?_) (by assumption) ?_ ?_
    rotate_left 1
    ·intro w hSw; (try dsimp only at hSw); go_simp; try with_reducible rfl
    refine tkB 7 (v := ?_) (by assumption) ?_ ?_
    rotate_left 1
    ·intro w hSw; (try dsimp only at hSw); go_simp; try with_reducible rfl
    refine tkB 8 (v := ?_) (by assumption) ?_ ?_
    rotate_left 1
    ·intro w hSw; (try dsimp only at hSw); go_simp; try with_reducible rfl
    refine tkB 9 (v := ?_) (by assumption) ?_ ?_
    rotate_left 1
    ·intro w hSw; (try dsimp only at hSw); go_simp; try with_reducible rfl
    have yT := cell_call hT bb
    have fT := (hPl.eq (bb.block bq hLt)).frozen (oq + j)
    have q0 := cell_call z2 bb
    have q1 := cell_call z3 bb
    refine wpAnyH_ready (rs := [10]) (by kernel_rfl) (by simp) ?_
    refine AllReadyH.cons (by simp only [List.getElem?_toArray]; rfl) (fun K hK => ?_) AllReadyH.nil
    refine wanted_pos (by kernel_rfl) ?_
    go_simp
    clear hHeld
    refine hK.out _ _ ?_ (fun hHeld => ?_)
    ·exact ⟨(World.cell?_of_block (a := ⟨w.heap.size + 1, 2, none⟩) (Below.heap_setCell W0 ⟨bq, oq + j, none⟩ _ (w.heap.size + 1) (by show w.heap.size + 1 ≠ bq; omega))).trans q0, (World.cell?_of_block (a := ⟨w.heap.size + 1, 3, none⟩) (Below.heap_setCell W0 ⟨bq, oq + j, none⟩ _ (w.heap.size + 1) (by show w.heap.size + 1 ≠ bq; omega))).trans q1⟩
    clear hK K
    try conv => arg 8; simp only [Act.put, List.setIfInBounds_toArray, List.set_cons_zero, List.set_cons_succ]
    refine wpAnyH_done (by kernel_rfl) ?_ _
    have bz : ∀ b, b < w.heap.size + 1 + 1 + 1 → (W0.setCell ⟨bq, oq + j, none⟩ (.int .i64 t3)).heap[b]? = w3.heap[b]? := fun c hc => (Below.heap_setCell W0 ⟨bq, oq + j, none⟩ _ c (by show c ≠ bq; omega)).trans ((bb.block c (by omega)).trans (BZ2.out c hc))
    have kx : Bk (W0.setCell ⟨bq, oq + j, none⟩ (.int .i64 t3)) w.heap.size 38 #[.slice ca cn cc, .slice (some ⟨bf, of', none⟩) fn fc, .slice ba bn bc, .slice ea en ec, .slice ga gn gc] := ((Below.heap_setCell W0 ⟨bq, oq + j, none⟩ _ w.heap.size (by show w.heap.size ≠ bq; omega)).trans (bb.block w.heap.size (by omega))).trans KXX.out
    have bl : Below w.heap.size w (W0.setCell ⟨bq, oq + j, none⟩ (.int .i64 t3)) := (below_call BL2.out bb).setCell (p := ⟨bq, oq + j, none⟩) (by show w.heap.size ≤ bq; omega) _
    obtain ⟨a', hA⟩ := isA_set (u' := .int .i64 t3) (isA_own HA2.out bb) yT (.inl ⟨x, t3, rfl, rfl⟩)
    clear hHeld yT fT HS bb q0 q1
    obtain ⟨W5, hW5⟩ : ∃ W5, W0.setCell ⟨bq, oq + j, none⟩ (.int .i64 t3) = W5 := ⟨_, rfl⟩
    rw [hW5] at bz kx bl hA ⊢
    clear hW5
    have kr := KR.out W5 bz
    have x0 := box_cells kx 0 rfl
    have x1 := box_cells kx 1 rfl
    have x2 := box_cells kx 2 rfl
    have x3 := box_cells kx 3 rfl
    have x4 := box_cells kx 4 rfl
    have y0 := box_cells kr 0 rfl
    have f0 := kr.frozen 0
    have y1 := box_cells kr 1 rfl
    have f1 := kr.frozen 1
    have y2 := box_cells kr 2 rfl
    have f2 := kr.frozen 2
    have y3 := box_cells kr 3 rfl
    have f3 := kr.frozen 3
    have y4 := box_cells kr 4 rfl
    have f4 := kr.frozen 4
    go_wp2_with fail
    have hk := store5_bk kr (.slice ca cn cc) (.slice (some ⟨bf, of', none⟩) fn fc) (.slice ba bn bc) (.slice ea en ec) (.slice ga gn gc)
    have hbl := store5_below (w := w) (g := w.heap.size + 1 + 1) bl (by omega) (.slice ca cn cc) (.slice (some ⟨bf, of', none⟩) fn fc) (.slice ba bn bc) (.slice ea en ec) (.slice ga gn gc)
    obtain ⟨hkp, hsz⟩ := store5_kept (S := fun _ => True) (W := W5) (w.heap.size + 1 + 1) (.slice ca cn cc) (.slice (some ⟨bf, of', none⟩) fn fc) (.slice ba bn bc) (.slice ea en ec) (.slice ga gn gc)
    unfold store5 at hk hbl hkp hsz
    clear x0 x1 x2 x3 x4 y0 y1 y2 y3 y4 f0 f1 f2 f3 f4 bz kr kx kt
    generalize (World.setCell _ _ _) = WE at *
    refine bodyPost_ret (results_cell_row rfl _ _ (w.heap.size + 1 + 1) 38 _ (0, 0) _ rfl hk Tryd.underlying38 rfl (by kernel_rfl)) rfl ⟨⟨ca, cn, cc, (some ⟨bf, of', none⟩), fn, fc, ba, bn, bc, ea, en, ec, ga, gn, gc⟩, a', rfl, hA.mono (fun b hb => ⟨by have := hb.1; omega, by have := hb.2.1; omega⟩) (fun b hb => hkp b ⟨trivial, by have := hb.1; omega⟩), by have h1 := hA.1.t.len; exact h1 ▸ hfn, by have h1 := hA.2.t.len; exact h1 ▸ hbn, hbl⟩

 ·by_cases h0 : bn = 0
  ·have inn : ¬ ((0 : Int) < (bn : Int)) := by omega
   clear h0
   have bz : ∀ b, b < w.heap.size + 1 + 1 + 1 → w3.heap[b]? = w3.heap[b]? := fun _ _ => rfl
   have hA := HA.out
   have bl := BL.out
   obtain ⟨a', ha'⟩ : ∃ a', fewA a = a' := ⟨_, rfl⟩
   rw [ha'] at hA
   clear ha'
   have kr := KR.out w3 bz
   have y0 := box_cells kr 0 rfl
   have f0 := kr.frozen 0
   have y1 := box_cells kr 1 rfl
   have f1 := kr.frozen 1
   have y2 := box_cells kr 2 rfl
   have f2 := kr.frozen 2
   have y3 := box_cells kr 3 rfl
   have f3 := kr.frozen 3
   have y4 := box_cells kr 4 rfl
   have f4 := kr.frozen 4
   go_wp2_with fail
   have hk := store5_bk kr (.slice ca cn cc) (.slice fa fn fc) (.slice ba bn bc) (.slice ea en ec) (.slice ga gn gc)
   have hbl := store5_below (w := w) (g := w.heap.size + 1 + 1) bl (by omega) (.slice ca cn cc) (.slice fa fn fc) (.slice ba bn bc) (.slice ea en ec) (.slice ga gn gc)
   obtain ⟨hkp, hsz⟩ := store5_kept (S := fun _ => True) (W := w3) (w.heap.size + 1 + 1) (.slice ca cn cc) (.slice fa fn fc) (.slice ba bn bc) (.slice ea en ec) (.slice ga gn gc)
   unfold store5 at hk hbl hkp hsz
   clear x0 x1 x2 x3 x4 y0 y1 y2 y3 y4 f0 f1 f2 f3 f4 bz kr kx kt
   generalize (World.setCell _ _ _) = WE at *
   refine bodyPost_ret (results_cell_row rfl _ _ (w.heap.size + 1 + 1) 38 _ (0, 0) _ rfl hk Tryd.underlying38 rfl (by kernel_rfl)) rfl ⟨⟨ca, cn, cc, fa, fn, fc, ba, bn, bc, ea, en, ec, ga, gn, gc⟩, a', rfl, hA.mono (fun b hb => ⟨by have := hb.1; omega, by have := hb.2.1; omega⟩) (fun b hb => hkp b ⟨trivial, by have := hb.1; omega⟩), by have h1 := hA.1.t.len; exact h1 ▸ hfn, by have h1 := hA.2.t.len; exact h1 ▸ hbn, hbl⟩

  ·have inn : (0 : Int) < (bn : Int) := by omega
   obtain ⟨m, k, e1, e2, hk⟩ := idx_of t1 (show 0 < bn by omega)
   obtain ⟨bf, of', hca, hS, hc⟩ := HA.out.2.t.pos (show 0 < bn by omega)
   have hca' : ba = some ⟨bf, of', none⟩ := hca
   subst hca'
   obtain ⟨row, hx⟩ := at_some (fewA a).back k (by have h1 := HA.out.2.t.len; change _ = bn at h1; omega)
   obtain ⟨cs, ⟨R, rn, rc, rfl, hR, hRd⟩, hcc⟩ := hc k row hx
   have xr := hcc 0 _ rfl
   rw [Nat.mul_one, Nat.add_zero] at xr
   have kz : (0 : Int) ≤ (k : Int) := by omega
   have kn : (k : Int) < (bn : Int) := by omega
   have e0 : ¬ (bn = 0) := h0
   have hrl := hR.len
   clear hc hcc hx hS
   go_upto_region 13 with fail
   have HS := Lib.hid fun (W : World) (bW : Below w3.heap.size w3 W) => (show W.cell? ⟨w.heap.size, 2, none⟩ = some (.slice (some ⟨bf, of', none⟩) bn bc) ∧ W.cell? ⟨w.heap.size + 1, 1, none⟩ = some (.int .i64 t1) ∧ W.cell? ⟨bf, of' + k, none⟩ = some (.slice R rn rc) from ⟨cell_call x2 bW, cell_call z1 bW, cell_call xr bW⟩)
   have bb := Below.refl w3.heap.size w3
   refine wp_region_held_drew (S := fun w' => w'.cell? ⟨w.heap.size, 2, none⟩ = some (.slice (some ⟨bf, of', none⟩) bn bc) ∧ w'.cell? ⟨w.heap.size + 1, 1, none⟩ = some (.int .i64 t1) ∧ w'.cell? ⟨bf, of' + k, none⟩ = some (.slice R rn rc)) (by kernel_rfl) ?_ (fun hHeld => ?_)
   ·exact HS.out _ (below_drewN bb 1)
   replace bb := below_drewN bb 1
   change Below _ _ w3.drew at bb
   generalize hw0 : w3.drew = W0 at hHeld bb ⊢
   clear hw0
   refine tkB 0 (v := ?_) (by assumption) ?_ ?_
   rotate_left 1
   ·intro w hSw; (try dsimp only at hSw); go_simp; try with_reducible rfl
   refine tkB 1 (v := ?_) (by assumption) ?_ ?_
   rotate_left 1
   ·intro w hSw; (try dsimp only at hSw); go_simp; try with_reducible rfl
   refine tkB 2 (v := ?_) (by assumption) ?_ ?_
   rotate_left 1
   ·intro w hSw; (try dsimp only at hSw); go_simp; try with_reducible rfl
   refine tkB 3 (v := ?_) (by assumption) ?_ ?_
   rotate_left 1
   ·intro w hSw; (try dsimp only at hSw); go_simp; try with_reducible rfl
   refine tkB 4 (v := ?_) (by assumption) ?_ ?_
   rotate_left 1
   ·intro w hSw; (try dsimp only at hSw); go_simp; try with_reducible rfl
   refine tkB 5 (v := ?_) (by assumption) ?_ ?_
   rotate_left 1
   ·intro w hSw; (try dsimp only at hSw); go_simp; try with_reducible rfl
   refine tkB 6 (v := ?_) (by assumption) ?_ ?_
   rotate_left 1
   ·intro w hSw; (try dsimp only at hSw); go_simp; try with_reducible rfl
   refine tkB 7 (v := ?_) (by assumption) ?_ ?_
   rotate_left 1
   ·intro w hSw; (try dsimp only at hSw); go_simp; try with_reducible rfl
   refine tkB 8 (v := ?_) (by assumption) ?_ ?_
   rotate_left 1
   ·intro w hSw; (try dsimp only at hSw); go_simp; try with_reducible rfl
   refine tkB 9 (v := ?_) (by assumption) ?_ ?_
   rotate_left 1
   ·intro w hSw; (try dsimp only at hSw); go_simp; try with_reducible rfl
   refine tkB 10 (v := ?_) (by assumption) ?_ ?_
   rotate_left 1
   ·intro w hSw; (try dsimp only at hSw); go_simp; try with_reducible rfl
   refine tkB 11 (v := ?_) (by assumption) ?_ ?_
   rotate_left 1
   ·intro w hSw; (try dsimp only at hSw); go_simp; try with_reducible rfl
   refine wpAnyH_done (by kernel_rfl) ?_ _
   have BZ2 := Lib.hid fun (b : Nat) (hb : b < w.heap.size + 1 + 1 + 1) => (show W0.heap[b]? = w3.heap[b]? from (bb.block b (by omega)).trans (BZ.out b hb))
   have HA2 := Lib.hid (isA_own HA.out bb)
   have BL2 := Lib.hid (below_call BL.out bb)
   have KX2 : Bk W0 w.heap.size 38 #[.slice ca cn cc, .slice fa fn fc, .slice (some ⟨bf, of', none⟩) bn bc, .slice ea en ec, .slice ga gn gc] := (bb.block _ (by omega)).trans KX.out
   replace hR := hR.mono (ownB_keep bb) (fun b hx => bb.block b hx.2.1)
   have kt2 : Bk W0 (w.heap.size + 1) 46 #[.int .i64 t0, .int .i64 t1, .int .i64 t2, .int .i64 t3] := (bb.block _ (by omega)).trans KT.out
   have hsz := bb.size
   clear HS hHeld xr x0 x1 x2 x3 x4 z0 z1 z2 z3 bb kx kt
   have KXX := Lib.hid KX2
   have kx := KX2
   have kt := kt2
   clear KX2 kt2
   have x0 := box_cells kx 0 rfl
   have x1 := box_cells kx 1 rfl
   have x2 := box_cells kx 2 rfl
   have x3 := box_cells kx 3 rfl
   have x4 := box_cells kx 4 rfl
   have z0 := box_cells kt 0 rfl
   have z1 := box_cells kt 1 rfl
   have z2 := box_cells kt 2 rfl
   have z3 := box_cells kt 3 rfl
   by_cases r0 : rn = 0
   ·have inn2 : ¬ ((0 : Int) < (rn : Int)) := by omega
    clear r0
    have bz := BZ2.out
    have hA := HA2.out
    have bl := BL2.out
    obtain ⟨a', ha'⟩ : ∃ a', fewA a = a' := ⟨_, rfl⟩
    rw [ha'] at hA
    clear ha'
    have kr := KR.out W0 bz
    have y0 := box_cells kr 0 rfl
    have f0 := kr.frozen 0
    have y1 := box_cells kr 1 rfl
    have f1 := kr.frozen 1
    have y2 := box_cells kr 2 rfl
    have f2 := kr.frozen 2
    have y3 := box_cells kr 3 rfl
    have f3 := kr.frozen 3
    have y4 := box_cells kr 4 rfl
    have f4 := kr.frozen 4
    go_wp2_with fail
    have hk := store5_bk kr (.slice ca cn cc) (.slice fa fn fc) (.slice (some ⟨bf, of', none⟩) bn bc) (.slice ea en ec) (.slice ga gn gc)
    have hbl := store5_below (w := w) (g := w.heap.size + 1 + 1) bl (by omega) (.slice ca cn cc) (.slice fa fn fc) (.slice (some ⟨bf, of', none⟩) bn bc) (.slice ea en ec) (.slice ga gn gc)
    obtain ⟨hkp, hsz⟩ := store5_kept (S := fun _ => True) (W := W0) (w.heap.size + 1 + 1) (.slice ca cn cc) (.slice fa fn fc) (.slice (some ⟨bf, of', none⟩) bn bc) (.slice ea en ec) (.slice ga gn gc)
    unfold store5 at hk hbl hkp hsz
    clear x0 x1 x2 x3 x4 y0 y1 y2 y3 y4 f0 f1 f2 f3 f4 bz kr kx kt
    generalize (World.setCell _ _ _) = WE at *
    refine bodyPost_ret (results_cell_row rfl _ _ (w.heap.size + 1 + 1) 38 _ (0, 0) _ rfl hk Tryd.underlying38 rfl (by kernel_rfl)) rfl ⟨⟨ca, cn, cc, fa, fn, fc, (some ⟨bf, of', none⟩), bn, bc, ea, en, ec, ga, gn, gc⟩, a', rfl, hA.mono (fun b hb => ⟨by have := hb.1; omega, by have := hb.2.1; omega⟩) (fun b hb => hkp b ⟨trivial, by have := hb.1; omega⟩), by have h1 := hA.1.t.len; exact h1 ▸ hfn, by have h1 := hA.2.t.len; exact h1 ▸ hbn, hbl⟩

   ·have inn2 : (0 : Int) < (rn : Int) := by omega
    obtain ⟨m2, j, e3, e4, hj⟩ := idx_of t2 (show 0 < rn by omega)
    obtain ⟨bq, oq, hra, hS, hc⟩ := hR.pos (show 0 < rn by omega)
    subst hra
    obtain ⟨x, hx⟩ := at_some row j (by rw [hrl]; exact hj)
    obtain ⟨cs, rfl, hcc⟩ := hc j x hx
    have hT := hcc 0 _ rfl
    rw [Nat.mul_one, Nat.add_zero] at hT
    have hPl : Plain W0 bq := hS.2.2
    have hLt : bq < W0.heap.size := hS.2.1
    have hBc : w.heap.size + 1 + 1 + 1 ≤ bq := hS.1
    have jz : (0 : Int) ≤ (j : Int) := by omega
    have jn : (j : Int) < (rn : Int) := by omega
    have e5 : ¬ (rn = 0) := r0
    clear hc hcc hx hS hR BZ KX HA BL
    generalize W0 = w4 at *
    go_upto_region 15 with fail
    have HS := Lib.hid fun (W : World) (bW : Below w4.heap.size w4 W) => (show W.cell? ⟨w.heap.size + 1, 2, none⟩ = some (.int .i64 t2) ∧ W.cell? ⟨w.heap.size + 1, 3, none⟩ = some (.int .i64 t3) from ⟨cell_call z2 bW, cell_call z3 bW⟩)
    have bb := Below.refl w4.heap.size w4
    refine wp_region_held_drew (S := fun w' => w'.cell? ⟨w.heap.size + 1, 2, none⟩ = some (.int .i64 t2) ∧ w'.cell? ⟨w.heap.size + 1, 3, none⟩ = some (.int .i64 t3)) (by kernel_rfl) ?_ (fun hHeld => ?_)
    ·exact HS.out _ (below_drewN bb 1)
    replace bb := below_drewN bb 1
    change Below _ _ w4.drew at bb
    generalize hw0 : w4.drew = W0 at hHeld bb ⊢
    clear hw0
    refine tkB 0 (v := ?_) (by assumption) ?_ ?_
    rotate_left 1
    ·intro w hSw; (try dsimp only at hSw); go_simp; try with_reducible rfl
    refine tkB 1 (v := ?_) (by assumption) ?_ ?_
    rotate_left 1
    ·intro w hSw; (try dsimp only at hSw); go_simp; try with_reducible rfl
    refine tkB 2 (v := ?_) (by assumption) ?_ ?_
    rotate_left 1
    ·intro w hSw; (try dsimp only at hSw); go_simp; try with_reducible rfl
    refine tkB 3 (v := ?_) (by assumption) ?_ ?_
    rotate_left 1
    ·intro w hSw; (try dsimp only at hSw); go_simp; try with_reducible rfl
    refine tkB 4 (v := ?_) (by assumption) ?_ ?_
    rotate_left 1
    ·intro w hSw; (try dsimp only at hSw); go_simp; try with_reducible rfl
    refine tkB 5 (v := ?_) (by assumption) ?_ ?_
    rotate_left 1
    ·intro w hSw; (try dsimp only at hSw); go_simp; try with_reducible rfl
    refine tkB 6 (v := ?_) (by assumption) ?_ ?_
    rotate_left 1
    ·intro w hSw; (try dsimp only at hSw); go_simp; try with_reducible rfl
    refine tkB 7 (v := ?_) (by assumption) ?_ ?_
    rotate_left 1
    ·intro w hSw; (try dsimp only at hSw); go_simp; try with_reducible rfl
    refine tkB 8 (v := ?_) (by assumption) ?_ ?_
    rotate_left 1
    ·intro w hSw; (try dsimp only at hSw); go_simp; try with_reducible rfl
    refine tkB 9 (v := ?_) (by assumption) ?_ ?_
    rotate_left 1
    ·intro w hSw; (try dsimp only at hSw); go_simp; try with_reducible rfl
    have yT := cell_call hT bb
    have fT := (hPl.eq (bb.block bq hLt)).frozen (oq + j)
    have q0 := cell_call z2 bb
    have q1 := cell_call z3 bb
    refine wpAnyH_ready (rs := [10]) (by kernel_rfl) (by simp) ?_
    refine AllReadyH.cons (by simp only [List.getElem?_toArray]; rfl) (fun K hK => ?_) AllReadyH.nil
    refine wanted_pos (by kernel_rfl) ?_
    go_simp
    clear hHeld
    refine hK.out _ _ ?_ (fun hHeld => ?_)
    ·exact ⟨(World.cell?_of_block (a := ⟨w.heap.size + 1, 2, none⟩) (Below.heap_setCell W0 ⟨bq, oq + j, none⟩ _ (w.heap.size + 1) (by show w.heap.size + 1 ≠ bq; omega))).trans q0, (World.cell?_of_block (a := ⟨w.heap.size + 1, 3, none⟩) (Below.heap_setCell W0 ⟨bq, oq + j, none⟩ _ (w.heap.size + 1) (by show w.heap.size + 1 ≠ bq; omega))).trans q1⟩
    clear hK K
    try conv => arg 8; simp only [Act.put, List.setIfInBounds_toArray, List.set_cons_zero, List.set_cons_succ]
    refine wpAnyH_done (by kernel_rfl) ?_ _
    have bz : ∀ b, b < w.heap.size + 1 + 1 + 1 → (W0.setCell ⟨bq, oq + j, none⟩ (.int .i64 t3)).heap[b]? = w3.heap[b]? := fun c hc => (Below.heap_setCell W0 ⟨bq, oq + j, none⟩ _ c (by show c ≠ bq; omega)).trans ((bb.block c (by omega)).trans (BZ2.out c hc))
    have kx : Bk (W0.setCell ⟨bq, oq + j, none⟩ (.int .i64 t3)) w.heap.size 38 #[.slice ca cn cc, .slice fa fn fc, .slice (some ⟨bf, of', none⟩) bn bc, .slice ea en ec, .slice ga gn gc] := ((Below.heap_setCell W0 ⟨bq, oq + j, none⟩ _ w.heap.size (by show w.heap.size ≠ bq; omega)).trans (bb.block w.heap.size (by omega))).trans KXX.out
    have bl : Below w.heap.size w (W0.setCell ⟨bq, oq + j, none⟩ (.int .i64 t3)) := (below_call BL2.out bb).setCell (p := ⟨bq, oq + j, none⟩) (by show w.heap.size ≤ bq; omega) _
    obtain ⟨a', hA⟩ := isA_set (u' := .int .i64 t3) (isA_own HA2.out bb) yT (.inl ⟨x, t3, rfl, rfl⟩)
    clear hHeld yT fT HS bb q0 q1
    obtain ⟨W5, hW5⟩ : ∃ W5, W0.setCell ⟨bq, oq + j, none⟩ (.int .i64 t3) = W5 := ⟨_, rfl⟩
    rw [hW5] at bz kx bl hA ⊢
    clear hW5
    have kr := KR.out W5 bz
    have x0 := box_cells kx 0 rfl
    have x1 := box_cells kx 1 rfl
    have x2 := box_cells kx 2 rfl
    have x3 := box_cells kx 3 rfl
    have x4 := box_cells kx 4 rfl
    have y0 := box_cells kr 0 rfl
    have f0 := kr.frozen 0
    have y1 := box_cells kr 1 rfl
    have f1 := kr.frozen 1
    have y2 := box_cells kr 2 rfl
    have f2 := kr.frozen 2
    have y3 := box_cells kr 3 rfl
    have f3 := kr.frozen 3
    have y4 := box_cells kr 4 rfl
    have f4 := kr.frozen 4
    go_wp2_with fail
    have hk := store5_bk kr (.slice ca cn cc) (.slice fa fn fc) (.slice (some ⟨bf, of', none⟩) bn bc) (.slice ea en ec) (.slice ga gn gc)
    have hbl := store5_below (w := w) (g := w.heap.size + 1 + 1) bl (by omega) (.slice ca cn cc) (.slice fa fn fc) (.slice (some ⟨bf, of', none⟩) bn bc) (.slice ea en ec) (.slice ga gn gc)
    obtain ⟨hkp, hsz⟩ := store5_kept (S := fun _ => True) (W := W5) (w.heap.size + 1 + 1) (.slice ca cn cc) (.slice fa fn fc) (.slice (some ⟨bf, of', none⟩) bn bc) (.slice ea en ec) (.slice ga gn gc)
    unfold store5 at hk hbl hkp hsz
    clear x0 x1 x2 x3 x4 y0 y1 y2 y3 y4 f0 f1 f2 f3 f4 bz kr kx kt
    generalize (World.setCell _ _ _) = WE at *
    refine bodyPost_ret (results_cell_row rfl _ _ (w.heap.size + 1 + 1) 38 _ (0, 0) _ rfl hk Tryd.underlying38 rfl (by kernel_rfl)) rfl ⟨⟨ca, cn, cc, fa, fn, fc, (some ⟨bf, of', none⟩), bn, bc, ea, en, ec, ga, gn, gc⟩, a', rfl, hA.mono (fun b hb => ⟨by have := hb.1; omega, by have := hb.2.1; omega⟩) (fun b hb => hkp b ⟨trivial, by have := hb.1; omega⟩), by have h1 := hA.1.t.len; exact h1 ▸ hfn, by have h1 := hA.2.t.len; exact h1 ▸ hbn, hbl⟩

 ·by_cases h0 : en = 0
  ·have inn : ¬ ((0 : Int) < (en : Int)) := by omega
   clear h0
   have bz : ∀ b, b < w.heap.size + 1 + 1 + 1 → w3.heap[b]? = w3.heap[b]? := fun _ _ => rfl
   have hA := HA.out
   have bl := BL.out
   obtain ⟨a', ha'⟩ : ∃ a', fewA a = a' := ⟨_, rfl⟩
   rw [ha'] at hA
   clear ha'
   have kr := KR.out w3 bz
   have y0 := box_cells kr 0 rfl
   have f0 := kr.frozen 0
   have y1 := box_cells kr 1 rfl
   have f1 := kr.frozen 1
   have y2 := box_cells kr 2 rfl
   have f2 := kr.frozen 2
   have y3 := box_cells kr 3 rfl
   have f3 := kr.frozen 3
   have y4 := box_cells kr 4 rfl
   have f4 := kr.frozen 4
   go_wp2_with fail
   have hk := store5_bk kr (.slice ca cn cc) (.slice fa fn fc) (.slice ba bn bc) (.slice ea en ec) (.slice ga gn gc)
   have hbl := store5_below (w := w) (g := w.heap.size + 1 + 1) bl (by omega) (.slice ca cn cc) (.slice fa fn fc) (.slice ba bn bc) (.slice ea en ec) (.slice ga gn gc)
   obtain ⟨hkp, hsz⟩ := store5_kept (S := fun _ => True) (W := w3) (w.heap.size + 1 + 1) (.slice ca cn cc) (.slice fa fn fc) (.slice ba bn bc) (.slice ea en ec) (.slice ga gn gc)
   unfold store5 at hk hbl hkp hsz
   clear x0 x1 x2 x3 x4 y0 y1 y2 y3 y4 f0 f1 f2 f3 f4 bz kr kx kt
   generalize (World.setCell _ _ _) = WE at *
   refine bodyPost_ret (results_cell_row rfl _ _ (w.heap.size + 1 + 1) 38 _ (0, 0) _ rfl hk Tryd.underlying38 rfl (by kernel_rfl)) rfl ⟨⟨ca, cn, cc, fa, fn, fc, ba, bn, bc, ea, en, ec, ga, gn, gc⟩, a', rfl, hA.mono (fun b hb => ⟨by have := hb.1; omega, by have := hb.2.1; omega⟩) (fun b hb => hkp b ⟨trivial, by have := hb.1; omega⟩), by have h1 := hA.1.t.len; exact h1 ▸ hfn, by have h1 := hA.2.t.len; exact h1 ▸ hbn, hbl⟩

  ·have inn : (0 : Int) < (en : Int) := by omega
   obtain ⟨m, k, e1, e2, hk⟩ := idx_of t1 (show 0 < en by omega)
   obtain ⟨bq, oq, hca, hS, hc⟩ := HA.out.1.e.pos (show 0 < en by omega)
   have hca' : ea = some ⟨bq, oq, none⟩ := hca
   subst hca'
   obtain ⟨x, hx⟩ := at_some (fewA a).fe k (by have h1 := HA.out.1.e.len; change _ = en at h1; omega)
   obtain ⟨cs, ⟨rfl, hxl⟩, hcc⟩ := hc k x hx
   have hT := hcc 0 _ rfl
   rw [Nat.mul_one, Nat.add_zero] at hT
   have hPl : Plain w3 bq := hS.2.2
   have hLt : bq < w3.heap.size := hS.2.1
   have hBc : w.heap.size + 1 + 1 + 1 ≤ bq := hS.1
   have kz : (0 : Int) ≤ (k : Int) := by omega
   have kn : (k : Int) < (en : Int) := by omega
   have e0 : ¬ (en = 0) := h0
   obtain ⟨q, hq⟩ : ∃ q : Nat, t3 % 256 = (q : Int) := ⟨(t3 % 256).toNat, by omega⟩
   have e3 : bits .and .i64 t3 255 = (q : Int) := by rw [bits_and255]; exact hq
   have hq64 : q < 18446744073709551616 := by omega
   have e4 : (q : Int) % 18446744073709551616 = (q : Int) := by omega
   have e5 : bits .xor .u64 (x : Int) (IntKind.u64.wrap (q : Int)) = ((x ^^^ q : Nat) : Int) := by rw [wrap_u64_nat hq64]; exact bits_xor_u64_nat x q hxl hq64
   have HXL := Lib.hid (xor_lt64 hxl hq64)
   clear hc hcc hx hS hq hxl hq64
   go_upto_region 19 with fail
   have HS := Lib.hid fun (W : World) (bW : Below w3.heap.size w3 W) => (show W.cell? ⟨w.heap.size, 3, none⟩ = some (.slice (some ⟨bq, oq, none⟩) en ec) ∧ W.cell? ⟨w.heap.size + 1, 3, none⟩ = some (.int .i64 t3) from ⟨cell_call x3 bW, cell_call z3 bW⟩)
   have bb := Below.refl w3.heap.size w3
   refine wp_region_held_drew (S := fun w' => w'.cell? ⟨w.heap.size, 3, none⟩ = some (.slice (some ⟨bq, oq, none⟩) en ec) ∧ w'.cell? ⟨w.heap.size + 1, 3, none⟩ = some (.int .i64 t3)) (by kernel_rfl) ?_ (fun hHeld => ?_)
   ·exact HS.out _ (below_drewN bb 1)
   replace bb := below_drewN bb 1
   change Below _ _ w3.drew at bb
   generalize hw0 : w3.drew = W0 at hHeld bb ⊢
   clear hw0
   refine tkB 0 (v := ?_) (by assumption) ?_ ?_
   rotate_left 1
   ·intro w hSw; (try dsimp only at hSw); go_simp; try with_reducible rfl
   refine tkB 1 (v := ?_) (by assumption) ?_ ?_
   rotate_left 1
   ·intro w hSw; (try dsimp only at hSw); go_simp; try with_reducible rfl
   refine tkB 2 (v := ?_) (by assumption) ?_ ?_
   rotate_left 1
   ·intro w hSw; (try dsimp only at hSw); go_simp; try with_reducible rfl
   refine tkB 3 (v := ?_) (by assumption) ?_ ?_
   rotate_left 1
   ·intro w hSw; (try dsimp only at hSw); go_simp; try with_reducible rfl
   refine tkB 4 (v := ?_) (by assumption) ?_ ?_
   rotate_left 1
   ·intro w hSw; (try dsimp only at hSw); go_simp; try with_reducible rfl
   refine tkB 5 (v := ?_) (by assumption) ?_ ?_
   rotate_left 1
   ·intro w hSw; (try dsimp only at hSw); go_simp; try with_reducible rfl
   refine tkB 6 (v := ?_) (by assumption) ?_ ?_
   rotate_left 1
   ·intro w hSw; (try dsimp only at hSw); go_simp; try with_reducible rfl
   refine tkB 8 (v := ?_) (by assumption) ?_ ?_
   rotate_left 1
   ·intro w hSw; (try dsimp only at hSw); go_simp; try with_reducible rfl
   refine tkB 9 (v := ?_) (by assumption) ?_ ?_
   rotate_left 1
   ·intro w hSw; (try dsimp only at hSw); go_simp; try with_reducible rfl
   refine tkB 10 (v := ?_) (by assumption) ?_ ?_
   rotate_left 1
   ·intro w hSw; (try dsimp only at hSw); go_simp; try with_reducible rfl
   refine tkB 11 (v := ?_) (by assumption) ?_ ?_
   rotate_left 1
   ·intro w hSw; (try dsimp only at hSw); go_simp; try with_reducible rfl
   have yT := cell_call hT bb
   have fT := (hPl.eq (bb.block bq hLt)).frozen (oq + k)
   have q0 := cell_call x3 bb
   have q1 := cell_call z3 bb
   refine wpAnyH_ready (rs := [7]) (by kernel_rfl) (by simp) ?_
   refine AllReadyH.cons (by simp only [List.getElem?_toArray]; rfl) (fun K hK => ?_) AllReadyH.nil
   refine wanted_pos (by kernel_rfl) ?_
   go_simp
   clear hHeld
   refine hK.out _ _ ?_ (fun hHeld => ?_)
   ·exact HS.out _ bb
   clear hK K
   try conv => arg 8; simp only [Act.put, List.setIfInBounds_toArray, List.set_cons_zero, List.set_cons_succ]
   refine tkB 12 (v := ?_) (by assumption) ?_ ?_
   rotate_left 1
   ·intro w hSw; (try dsimp only at hSw); go_simp; try with_reducible rfl
   refine tkB 13 (v := ?_) (by assumption) ?_ ?_
   rotate_left 1
   ·intro w hSw; (try dsimp only at hSw); go_simp; try with_reducible rfl
   refine wpAnyH_ready (rs := [14]) (by kernel_rfl) (by simp) ?_
   refine AllReadyH.cons (by simp only [List.getElem?_toArray]; rfl) (fun K hK => ?_) AllReadyH.nil
   refine wanted_pos (by kernel_rfl) ?_
   go_simp
   clear hHeld
   refine hK.out _ _ ?_ (fun hHeld => ?_)
   ·exact ⟨(World.cell?_of_block (a := ⟨w.heap.size, 3, none⟩) (Below.heap_setCell W0 ⟨bq, oq + k, none⟩ _ (w.heap.size) (by show w.heap.size ≠ bq; omega))).trans q0, (World.cell?_of_block (a := ⟨w.heap.size + 1, 3, none⟩) (Below.heap_setCell W0 ⟨bq, oq + k, none⟩ _ (w.heap.size + 1) (by show w.heap.size + 1 ≠ bq; omega))).trans q1⟩
   clear hK K
   try conv => arg 8; simp only [Act.put, List.setIfInBounds_toArray, List.set_cons_zero, List.set_cons_succ]
   refine wpAnyH_done (by kernel_rfl) ?_ _
   have bz : ∀ b, b < w.heap.size + 1 + 1 + 1 → (W0.setCell ⟨bq, oq + k, none⟩ (.int .u64 ((x ^^^ q : Nat) : Int))).heap[b]? = w3.heap[b]? := fun c hc => (Below.heap_setCell W0 ⟨bq, oq + k, none⟩ _ c (by show c ≠ bq; omega)).trans ((bb.block c (by omega)).trans (BZ.out c hc))
   have kx : Bk (W0.setCell ⟨bq, oq + k, none⟩ (.int .u64 ((x ^^^ q : Nat) : Int))) w.heap.size 38 #[.slice ca cn cc, .slice fa fn fc, .slice ba bn bc, .slice (some ⟨bq, oq, none⟩) en ec, .slice ga gn gc] := ((Below.heap_setCell W0 ⟨bq, oq + k, none⟩ _ w.heap.size (by show w.heap.size ≠ bq; omega)).trans (bb.block w.heap.size (by omega))).trans KX.out
   have bl : Below w.heap.size w (W0.setCell ⟨bq, oq + k, none⟩ (.int .u64 ((x ^^^ q : Nat) : Int))) := (below_call BL.out bb).setCell (p := ⟨bq, oq + k, none⟩) (by show w.heap.size ≤ bq; omega) _
   obtain ⟨a', hA⟩ := isA_set (u' := .int .u64 ((x ^^^ q : Nat) : Int)) (isA_own HA.out bb) yT (.inr (.inl ⟨x, x ^^^ q, rfl, rfl, HXL.out⟩))
   clear hHeld yT fT HS bb q0 q1
   obtain ⟨W5, hW5⟩ : ∃ W5, W0.setCell ⟨bq, oq + k, none⟩ (.int .u64 ((x ^^^ q : Nat) : Int)) = W5 := ⟨_, rfl⟩
   rw [hW5] at bz kx bl hA ⊢
   clear hW5
   have kr := KR.out W5 bz
   have x0 := box_cells kx 0 rfl
   have x1 := box_cells kx 1 rfl
   have x2 := box_cells kx 2 rfl
   have x3 := box_cells kx 3 rfl
   have x4 := box_cells kx 4 rfl
   have y0 := box_cells kr 0 rfl
   have f0 := kr.frozen 0
   have y1 := box_cells kr 1 rfl
   have f1 := kr.frozen 1
   have y2 := box_cells kr 2 rfl
   have f2 := kr.frozen 2
   have y3 := box_cells kr 3 rfl
   have f3 := kr.frozen 3
   have y4 := box_cells kr 4 rfl
   have f4 := kr.frozen 4
   go_wp2_with fail
   have hk := store5_bk kr (.slice ca cn cc) (.slice fa fn fc) (.slice ba bn bc) (.slice (some ⟨bq, oq, none⟩) en ec) (.slice ga gn gc)
   have hbl := store5_below (w := w) (g := w.heap.size + 1 + 1) bl (by omega) (.slice ca cn cc) (.slice fa fn fc) (.slice ba bn bc) (.slice (some ⟨bq, oq, none⟩) en ec) (.slice ga gn gc)
   obtain ⟨hkp, hsz⟩ := store5_kept (S := fun _ => True) (W := W5) (w.heap.size + 1 + 1) (.slice ca cn cc) (.slice fa fn fc) (.slice ba bn bc) (.slice (some ⟨bq, oq, none⟩) en ec) (.slice ga gn gc)
   unfold store5 at hk hbl hkp hsz
   clear x0 x1 x2 x3 x4 y0 y1 y2 y3 y4 f0 f1 f2 f3 f4 bz kr kx kt
   generalize (World.setCell _ _ _) = WE at *
   refine bodyPost_ret (results_cell_row rfl _ _ (w.heap.size + 1 + 1) 38 _ (0, 0) _ rfl hk Tryd.underlying38 rfl (by kernel_rfl)) rfl ⟨⟨ca, cn, cc, fa, fn, fc, ba, bn, bc, (some ⟨bq, oq, none⟩), en, ec, ga, gn, gc⟩, a', rfl, hA.mono (fun b hb => ⟨by have := hb.1; omega, by have := hb.2.1; omega⟩) (fun b hb => hkp b ⟨trivial, by have := hb.1; omega⟩), by have h1 := hA.1.t.len; exact h1 ▸ hfn, by have h1 := hA.2.t.len; exact h1 ▸ hbn, hbl⟩

 ·by_cases h0 : gn = 0
  ·have inn : ¬ ((0 : Int) < (gn : Int)) := by omega
   clear h0
   have bz : ∀ b, b < w.heap.size + 1 + 1 + 1 → w3.heap[b]? = w3.heap[b]? := fun _ _ => rfl
   have hA := HA.out
   have bl := BL.out
   obtain ⟨a', ha'⟩ : ∃ a', fewA a = a' := ⟨_, rfl⟩
   rw [ha'] at hA
   clear ha'
   have kr := KR.out w3 bz
   have y0 := box_cells kr 0 rfl
   have f0 := kr.frozen 0
   have y1 := box_cells kr 1 rfl
   have f1 := kr.frozen 1
   have y2 := box_cells kr 2 rfl
   have f2 := kr.frozen 2
   have y3 := box_cells kr 3 rfl
   have f3 := kr.frozen 3
   have y4 := box_cells kr 4 rfl
   have f4 := kr.frozen 4
   go_wp2_with fail
   have hk := store5_bk kr (.slice ca cn cc) (.slice fa fn fc) (.slice ba bn bc) (.slice ea en ec) (.slice ga gn gc)
   have hbl := store5_below (w := w) (g := w.heap.size + 1 + 1) bl (by omega) (.slice ca cn cc) (.slice fa fn fc) (.slice ba bn bc) (.slice ea en ec) (.slice ga gn gc)
   obtain ⟨hkp, hsz⟩ := store5_kept (S := fun _ => True) (W := w3) (w.heap.size + 1 + 1) (.slice ca cn cc) (.slice fa fn fc) (.slice ba bn bc) (.slice ea en ec) (.slice ga gn gc)
   unfold store5 at hk hbl hkp hsz
   clear x0 x1 x2 x3 x4 y0 y1 y2 y3 y4 f0 f1 f2 f3 f4 bz kr kx kt
   generalize (World.setCell _ _ _) = WE at *
   refine bodyPost_ret (results_cell_row rfl _ _ (w.heap.size + 1 + 1) 38 _ (0, 0) _ rfl hk Tryd.underlying38 rfl (by kernel_rfl)) rfl ⟨⟨ca, cn, cc, fa, fn, fc, ba, bn, bc, ea, en, ec, ga, gn, gc⟩, a', rfl, hA.mono (fun b hb => ⟨by have := hb.1; omega, by have := hb.2.1; omega⟩) (fun b hb => hkp b ⟨trivial, by have := hb.1; omega⟩), by have h1 := hA.1.t.len; exact h1 ▸ hfn, by have h1 := hA.2.t.len; exact h1 ▸ hbn, hbl⟩

  ·have inn : (0 : Int) < (gn : Int) := by omega
   obtain ⟨m, k, e1, e2, hk⟩ := idx_of t1 (show 0 < gn by omega)
   obtain ⟨bq, oq, hca, hS, hc⟩ := HA.out.2.e.pos (show 0 < gn by omega)
   have hca' : ga = some ⟨bq, oq, none⟩ := hca
   subst hca'
   obtain ⟨x, hx⟩ := at_some (fewA a).be k (by have h1 := HA.out.2.e.len; change _ = gn at h1; omega)
   obtain ⟨cs, ⟨rfl, hxl⟩, hcc⟩ := hc k x hx
   have hT := hcc 0 _ rfl
   rw [Nat.mul_one, Nat.add_zero] at hT
   have hPl : Plain w3 bq := hS.2.2
   have hLt : bq < w3.heap.size := hS.2.1
   have hBc : w.heap.size + 1 + 1 + 1 ≤ bq := hS.1
   have kz : (0 : Int) ≤ (k : Int) := by omega
   have kn : (k : Int) < (gn : Int) := by omega
   have e0 : ¬ (gn = 0) := h0
   obtain ⟨q, hq⟩ : ∃ q : Nat, t3 % 256 = (q : Int) := ⟨(t3 % 256).toNat, by omega⟩
   have e3 : bits .and .i64 t3 255 = (q : Int) := by rw [bits_and255]; exact hq
   have hq64 : q < 18446744073709551616 := by omega
   have e4 : (q : Int) % 18446744073709551616 = (q : Int) := by omega
   have e5 : bits .xor .u64 (x : Int) (IntKind.u64.wrap (q : Int)) = ((x ^^^ q : Nat) : Int) := by rw [wrap_u64_nat hq64]; exact bits_xor_u64_nat x q hxl hq64
   have HXL := Lib.hid (xor_lt64 hxl hq64)
   clear hc hcc hx hS hq hxl hq64
   go_upto_region 23 with fail
   have HS := Lib.hid fun (W : World) (bW : Below w3.heap.size w3 W) => (show W.cell? ⟨w.heap.size, 4, none⟩ = some (.slice (some ⟨bq, oq, none⟩) gn gc) ∧ W.cell? ⟨w.heap.size + 1, 3, none⟩ = some (.int .i64 t3) from ⟨cell_call x4 bW, cell_call z3 bW⟩)
   have bb := Below.refl w3.heap.size w3
   refine wp_region_held_drew (S := fun w' => w'.cell? ⟨w.heap.size, 4, none⟩ = some (.slice (some ⟨bq, oq, none⟩) gn gc) ∧ w'.cell? ⟨w.heap.size + 1, 3, none⟩ = some (.int .i64 t3)) (by kernel_rfl) ?_ (fun hHeld => ?_)
   ·exact HS.out _ (below_drewN bb 1)
   replace bb := below_drewN bb 1
   change Below _ _ w3.drew at bb
   generalize hw0 : w3.drew = W0 at hHeld bb ⊢
   clear hw0
   refine tkB 0 (v := ?_) (by assumption) ?_ ?_
   rotate_left 1
   ·intro w hSw; (try dsimp only at hSw); go_simp; try with_reducible rfl
   refine tkB 1 (v := ?_) (by assumption) ?_ ?_
   rotate_left 1
   ·intro w hSw; (try dsimp only at hSw); go_simp; try with_reducible rfl
   refine tkB 2 (v := ?_) (by assumption) ?_ ?_
   rotate_left 1
   ·intro w hSw; (try dsimp only at hSw); go_simp; try with_reducible rfl
   refine tkB 3 (v := ?_) (by assumption) ?_ ?_
   rotate_left 1
   ·intro w hSw; (try dsimp only at hSw); go_simp; try with_reducible rfl
   refine tkB 4 (v := ?_) (by assumption) ?_ ?_
   rotate_left 1
   ·intro w hSw; (try dsimp only at hSw); go_simp; try with_reducible rfl
   refine tkB 5 (v := ?_) (by assumption) ?_ ?_
   rotate_left 1
   ·intro w hSw; (try dsimp only at hSw); go_simp; try with_reducible rfl
   refine tkB 6 (v := ?_) (by assumption) ?_ ?_
   rotate_left 1
   ·intro w hSw; (try dsimp only at hSw); go_simp; try with_reducible rfl
   refine tkB 8 (v := ?_) (by assumption) ?_ ?_
   rotate_left 1
   ·intro w hSw; (try dsimp only at hSw); go_simp; try with_reducible rfl
   refine tkB 9 (v := ?_) (by assumption) ?_ ?_
   rotate_left 1
   ·intro w hSw; (try dsimp only at hSw); go_simp; try with_reducible rfl
   refine tkB 10 (v := ?_) (by assumption) ?_ ?_
   rotate_left 1
   ·intro w hSw; (try dsimp only at hSw); go_simp; try with_reducible rfl
   refine tkB 11 (v := ?_) (by assumption) ?_ ?_
   rotate_left 1
   ·intro w hSw; (try dsimp only at hSw); go_simp; try with_reducible rfl
   have yT := cell_call hT bb
   have fT := (hPl.eq (bb.block bq hLt)).frozen (oq + k)
   have q0 := cell_call x4 bb
   have q1 := cell_call z3 bb
   refine wpAnyH_ready (rs := [7]) (by kernel_rfl) (by simp) ?_
   refine AllReadyH.cons (by simp only [List.getElem?_toArray]; rfl) (fun K hK => ?_) AllReadyH.nil
   refine wanted_pos (by kernel_rfl) ?_
   go_simp
   clear hHeld
   refine hK.out _ _ ?_ (fun hHeld => ?_)
   ·exact HS.out _ bb
   clear hK K
   try conv => arg 8; simp only [Act.put, List.setIfInBounds_toArray, List.set_cons_zero, List.set_cons_succ]
   refine tkB 12 (v := ?_) (by assumption) ?_ ?_
   rotate_left 1
   ·intro w hSw; (try dsimp only at hSw); go_simp; try with_reducible rfl
   refine tkB 13 (v := ?_) (by assumption) ?_ ?_
   rotate_left 1
   ·intro w hSw; (try dsimp only at hSw); go_simp; try with_reducible rfl
   refine wpAnyH_ready (rs := [14]) (by kernel_rfl) (by simp) ?_
   refine AllReadyH.cons (by simp only [List.getElem?_toArray]; rfl) (fun K hK => ?_) AllReadyH.nil
   refine wanted_pos (by kernel_rfl) ?_
   go_simp
   clear hHeld
   refine hK.out _ _ ?_ (fun hHeld => ?_)
   ·exact ⟨(World.cell?_of_block (a := ⟨w.heap.size, 4, none⟩) (Below.heap_setCell W0 ⟨bq, oq + k, none⟩ _ (w.heap.size) (by show w.heap.size ≠ bq; omega))).trans q0, (World.cell?_of_block (a := ⟨w.heap.size + 1, 3, none⟩) (Below.heap_setCell W0 ⟨bq, oq + k, none⟩ _ (w.heap.size + 1) (by show w.heap.size + 1 ≠ bq; omega))).trans q1⟩
   clear hK K
   try conv => arg 8; simp only [Act.put, List.setIfInBounds_toArray, List.set_cons_zero, List.set_cons_succ]
   refine wpAnyH_done (by kernel_rfl) ?_ _
   have bz : ∀ b, b < w.heap.size + 1 + 1 + 1 → (W0.setCell ⟨bq, oq + k, none⟩ (.int .u64 ((x ^^^ q : Nat) : Int))).heap[b]? = w3.heap[b]? := fun c hc => (Below.heap_setCell W0 ⟨bq, oq + k, none⟩ _ c (by show c ≠ bq; omega)).trans ((bb.block c (by omega)).trans (BZ.out c hc))
   have kx : Bk (W0.setCell ⟨bq, oq + k, none⟩ (.int .u64 ((x ^^^ q : Nat) : Int))) w.heap.size 38 #[.slice ca cn cc, .slice fa fn fc, .slice ba bn bc, .slice ea en ec, .slice (some ⟨bq, oq, none⟩) gn gc] := ((Below.heap_setCell W0 ⟨bq, oq + k, none⟩ _ w.heap.size (by show w.heap.size ≠ bq; omega)).trans (bb.block w.heap.size (by omega))).trans KX.out
   have bl : Below w.heap.size w (W0.setCell ⟨bq, oq + k, none⟩ (.int .u64 ((x ^^^ q : Nat) : Int))) := (below_call BL.out bb).setCell (p := ⟨bq, oq + k, none⟩) (by show w.heap.size ≤ bq; omega) _
   obtain ⟨a', hA⟩ := isA_set (u' := .int .u64 ((x ^^^ q : Nat) : Int)) (isA_own HA.out bb) yT (.inr (.inl ⟨x, x ^^^ q, rfl, rfl, HXL.out⟩))
   clear hHeld yT fT HS bb q0 q1
   obtain ⟨W5, hW5⟩ : ∃ W5, W0.setCell ⟨bq, oq + k, none⟩ (.int .u64 ((x ^^^ q : Nat) : Int)) = W5 := ⟨_, rfl⟩
   rw [hW5] at bz kx bl hA ⊢
   clear hW5
   have kr := KR.out W5 bz
   have x0 := box_cells kx 0 rfl
   have x1 := box_cells kx 1 rfl
   have x2 := box_cells kx 2 rfl
   have x3 := box_cells kx 3 rfl
   have x4 := box_cells kx 4 rfl
   have y0 := box_cells kr 0 rfl
   have f0 := kr.frozen 0
   have y1 := box_cells kr 1 rfl
   have f1 := kr.frozen 1
   have y2 := box_cells kr 2 rfl
   have f2 := kr.frozen 2
   have y3 := box_cells kr 3 rfl
   have f3 := kr.frozen 3
   have y4 := box_cells kr 4 rfl
   have f4 := kr.frozen 4
   go_wp2_with fail
   have hk := store5_bk kr (.slice ca cn cc) (.slice fa fn fc) (.slice ba bn bc) (.slice ea en ec) (.slice (some ⟨bq, oq, none⟩) gn gc)
   have hbl := store5_below (w := w) (g := w.heap.size + 1 + 1) bl (by omega) (.slice ca cn cc) (.slice fa fn fc) (.slice ba bn bc) (.slice ea en ec) (.slice (some ⟨bq, oq, none⟩) gn gc)
   obtain ⟨hkp, hsz⟩ := store5_kept (S := fun _ => True) (W := W5) (w.heap.size + 1 + 1) (.slice ca cn cc) (.slice fa fn fc) (.slice ba bn bc) (.slice ea en ec) (.slice (some ⟨bq, oq, none⟩) gn gc)
   unfold store5 at hk hbl hkp hsz
   clear x0 x1 x2 x3 x4 y0 y1 y2 y3 y4 f0 f1 f2 f3 f4 bz kr kx kt
   generalize (World.setCell _ _ _) = WE at *
   refine bodyPost_ret (results_cell_row rfl _ _ (w.heap.size + 1 + 1) 38 _ (0, 0) _ rfl hk Tryd.underlying38 rfl (by kernel_rfl)) rfl ⟨⟨ca, cn, cc, fa, fn, fc, ba, bn, bc, ea, en, ec, (some ⟨bq, oq, none⟩), gn, gc⟩, a', rfl, hA.mono (fun b hb => ⟨by have := hb.1; omega, by have := hb.2.1; omega⟩) (fun b hb => hkp b ⟨trivial, by have := hb.1; omega⟩), by have h1 := hA.1.t.len; exact h1 ▸ hfn, by have h1 := hA.2.t.len; exact h1 ▸ hbn, hbl⟩

 ·have bz : ∀ b, b < w.heap.size + 1 + 1 + 1 → w3.heap[b]? = w3.heap[b]? := fun _ _ => rfl
  have hA := HA.out
  have bl := BL.out
  obtain ⟨a', ha'⟩ : ∃ a', fewA a = a' := ⟨_, rfl⟩
  rw [ha'] at hA
  clear ha'
  have kr := KR.out w3 bz
  have y0 := box_cells kr 0 rfl
  have f0 := kr.frozen 0
  have y1 := box_cells kr 1 rfl
  have f1 := kr.frozen 1
  have y2 := box_cells kr 2 rfl
  have f2 := kr.frozen 2
  have y3 := box_cells kr 3 rfl
  have f3 := kr.frozen 3
  have y4 := box_cells kr 4 rfl
  have f4 := kr.frozen 4
  go_wp2_with fail
  have hk := store5_bk kr (.slice ca cn cc) (.slice fa fn fc) (.slice ba bn bc) (.slice ea en ec) (.slice ga gn gc)
  have hbl := store5_below (w := w) (g := w.heap.size + 1 + 1) bl (by omega) (.slice ca cn cc) (.slice fa fn fc) (.slice ba bn bc) (.slice ea en ec) (.slice ga gn gc)
  obtain ⟨hkp, hsz⟩ := store5_kept (S := fun _ => True) (W := w3) (w.heap.size + 1 + 1) (.slice ca cn cc) (.slice fa fn fc) (.slice ba bn bc) (.slice ea en ec) (.slice ga gn gc)
  unfold store5 at hk hbl hkp hsz
  clear x0 x1 x2 x3 x4 y0 y1 y2 y3 y4 f0 f1 f2 f3 f4 bz kr kx kt
  generalize (World.setCell _ _ _) = WE at *
  refine bodyPost_ret (results_cell_row rfl _ _ (w.heap.size + 1 + 1) 38 _ (0, 0) _ rfl hk Tryd.underlying38 rfl (by kernel_rfl)) rfl ⟨⟨ca, cn, cc, fa, fn, fc, ba, bn, bc, ea, en, ec, ga, gn, gc⟩, a', rfl, hA.mono (fun b hb => ⟨by have := hb.1; omega, by have := hb.2.1; omega⟩) (fun b hb => hkp b ⟨trivial, by have := hb.1; omega⟩), by have h1 := hA.1.t.len; exact h1 ▸ hfn, by have h1 := hA.2.t.len; exact h1 ▸ hbn, hbl⟩

 ·have bz : ∀ b, b < w.heap.size + 1 + 1 + 1 → w3.heap[b]? = w3.heap[b]? := fun _ _ => rfl
  have hA := HA.out
  have bl := BL.out
  obtain ⟨a', ha'⟩ : ∃ a', fewA a = a' := ⟨_, rfl⟩
  rw [ha'] at hA
  clear ha'
  have kr := KR.out w3 bz
  have y0 := box_cells kr 0 rfl
  have f0 := kr.frozen 0
  have y1 := box_cells kr 1 rfl
  have f1 := kr.frozen 1
  have y2 := box_cells kr 2 rfl
  have f2 := kr.frozen 2
  have y3 := box_cells kr 3 rfl
  have f3 := kr.frozen 3
  have y4 := box_cells kr 4 rfl
  have f4 := kr.frozen 4
  go_wp2_with fail
  have hk := store5_bk kr (.slice ca cn cc) (.slice fa fn fc) (.slice ba bn bc) (.slice ea en ec) (.slice ga gn gc)
  have hbl := store5_below (w := w) (g := w.heap.size + 1 + 1) bl (by omega) (.slice ca cn cc) (.slice fa fn fc) (.slice ba bn bc) (.slice ea en ec) (.slice ga gn gc)
  obtain ⟨hkp, hsz⟩ := store5_kept (S := fun _ => True) (W := w3) (w.heap.size + 1 + 1) (.slice ca cn cc) (.slice fa fn fc) (.slice ba bn bc) (.slice ea en ec) (.slice ga gn gc)
  unfold store5 at hk hbl hkp hsz
  clear x0 x1 x2 x3 x4 y0 y1 y2 y3 y4 f0 f1 f2 f3 f4 bz kr kx kt
  generalize (World.setCell _ _ _) = WE at *
  refine bodyPost_ret (results_cell_row rfl _ _ (w.heap.size + 1 + 1) 38 _ (0, 0) _ rfl hk Tryd.underlying38 rfl (by kernel_rfl)) rfl ⟨⟨ca, cn, cc, fa, fn, fc, ba, bn, bc, ea, en, ec, ga, gn, gc⟩, a', rfl, hA.mono (fun b hb => ⟨by have := hb.1; omega, by have := hb.2.1; omega⟩) (fun b hb => hkp b ⟨trivial, by have := hb.1; omega⟩), by have h1 := hA.1.t.len; exact h1 ▸ hfn, by have h1 := hA.2.t.len; exact h1 ▸ hbn, hbl⟩

 ·have bz : ∀ b, b < w.heap.size + 1 + 1 + 1 → w3.heap[b]? = w3.heap[b]? := fun _ _ => rfl
  have hA := HA.out
  have bl := BL.out
  obtain ⟨a', ha'⟩ : ∃ a', fewA a = a' := ⟨_, rfl⟩
  rw [ha'] at hA
  clear ha'
  have kr := KR.out w3 bz
  have y0 := box_cells kr 0 rfl
  have f0 := kr.frozen 0
  have y1 := box_cells kr 1 rfl
  have f1 := kr.frozen 1
  have y2 := box_cells kr 2 rfl
  have f2 := kr.frozen 2
  have y3 := box_cells kr 3 rfl
  have f3 := kr.frozen 3
  have y4 := box_cells kr 4 rfl
  have f4 := kr.frozen 4
  go_wp2_with fail
  have hk := store5_bk kr (.slice ca cn cc) (.slice fa fn fc) (.slice ba bn bc) (.slice ea en ec) (.slice ga gn gc)
  have hbl := store5_below (w := w) (g := w.heap.size + 1 + 1) bl (by omega) (.slice ca cn cc) (.slice fa fn fc) (.slice ba bn bc) (.slice ea en ec) (.slice ga gn gc)
  obtain ⟨hkp, hsz⟩ := store5_kept (S := fun _ => True) (W := w3) (w.heap.size + 1 + 1) (.slice ca cn cc) (.slice fa fn fc) (.slice ba bn bc) (.slice ea en ec) (.slice ga gn gc)
  unfold store5 at hk hbl hkp hsz
  clear x0 x1 x2 x3 x4 y0 y1 y2 y3 y4 f0 f1 f2 f3 f4 bz kr kx kt
  generalize (World.setCell _ _ _) = WE at *
  refine bodyPost_ret (results_cell_row rfl _ _ (w.heap.size + 1 + 1) 38 _ (0, 0) _ rfl hk Tryd.underlying38 rfl (by kernel_rfl)) rfl ⟨⟨ca, cn, cc, fa, fn, fc, ba, bn, bc, ea, en, ec, ga, gn, gc⟩, a', rfl, hA.mono (fun b hb => ⟨by have := hb.1; omega, by have := hb.2.1; omega⟩) (fun b hb => hkp b ⟨trivial, by have := hb.1; omega⟩), by have h1 := hA.1.t.len; exact h1 ▸ hfn, by have h1 := hA.2.t.len; exact h1 ▸ hbn, hbl⟩


end Go.Proofs.YtgcmedkaadagmaaDoor
