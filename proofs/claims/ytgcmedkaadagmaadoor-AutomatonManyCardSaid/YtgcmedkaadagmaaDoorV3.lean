/- Walks: Fore, Back, First; math/bits.TrailingZeros64. -/
import Derived.Test.YtgcmedkaadagmaaDoorV2
import Derived.Shelf.Spec.TrailingZeros
import Derived.Deep.RegionHeld3
import Derived.Deep.DrawnRows
import Derived.Handy
namespace Go.Proofs.YtgcmedkaadagmaaDoor
open Go.RowKit Go.Shelf

theorem wanted_pos {c A B : Prop} [Decidable c] (h : c) (a : A) : if c then A else B := by rw [if_pos h]; exact a
/-- An automaton's five cells. -/
structure AV where
  ca : Option Addr
  cn : Nat
  cc : Nat
  fa : Option Addr
  fn : Nat
  fc : Nat
  ba : Option Addr
  bn : Nat
  bc : Nat
  ea : Option Addr
  en : Nat
  ec : Nat
  ga : Option Addr
  gn : Nat
  gc : Nat
abbrev AV.cells (v : AV) : Array Value := #[.slice v.ca v.cn v.cc, .slice v.fa v.fn v.fc, .slice v.ba v.bn v.bc, .slice v.ea v.en v.ec, .slice v.ga v.gn v.gc]
def AV.rf (v : AV) : RV := ⟨v.ca, v.cn, v.cc, v.fa, v.fn, v.fc, v.ea, v.en, v.ec⟩
def AV.rb (v : AV) : RV := ⟨v.ca, v.cn, v.cc, v.ba, v.bn, v.bc, v.ga, v.gn, v.gc⟩
def IsA (w : World) (S : Nat → Prop) (v : AV) (a : Au) : Prop := IsR w S v.rf a.cls a.fore a.fe ∧ IsR w S v.rb a.cls a.back a.be
theorem IsA.mono {w w' : World} {S S' : Nat → Prop} {v : AV} {a : Au} (h : IsA w S v a) (hS : ∀ b, S b → S' b) (hk : Kept S w w') : IsA w' S' v a := ⟨h.1.mono hS hk, h.2.mono hS hk⟩
theorem IsA.call {w w' : World} {v : AV} {a : Au} (h : IsA w (lo w.heap.size) v a) (k : Below w.heap.size w w') : IsA w' (lo w'.heap.size) v a := h.mono (lo_mono k.size) (kept_below k)

set_option maxRecDepth 100000 in
set_option maxHeartbeats 400000 in
theorem Fore_c (v : AV) (a : Au) (A : Option Addr) (n c : Nat) (gs : List Int) (w : World) (h : IsA w (lo w.heap.size) v a) (hg : Rd w (lo w.heap.size) A n gs) (hn : n ≤ 9223372036854775807) :
    Calls Tryd.prog 20 #[.agg v.cells, .slice A n c] w fun e w' => e = .returned (.int .u64 (foreA a gs : Int)) ∧ Below w.heap.size w w' := by
  have hb : Below w.heap.size w (w.alloc (.cells v.cells 38)) := (Below.refl _ _).alloc (Nat.le_refl _) _
  have HC := Lib.hid (read_c v.rf a.cls a.fore a.fe A n c gs _ (h.call hb).1 (hg.call hb) hn)
  clear h hg
  unfold AV.cells at *
  unfold RV.cells AV.rf at HC
  dsimp only at HC
  unfold foreA
  go_enter Tryd.func20, Tryd.ntmps20
  go_wp2_with fail
  refine HC.out.mono ?_
  rintro e w1 ⟨rfl, hb1⟩
  have hb2 := below_call hb hb1
  clear hb1 HC
  go_wp2
  go_ret
  exact ⟨rfl, hb2⟩
set_option maxRecDepth 100000 in
set_option maxHeartbeats 400000 in
theorem Back_c (v : AV) (a : Au) (A : Option Addr) (n c : Nat) (gs : List Int) (w : World) (h : IsA w (lo w.heap.size) v a) (hg : Rd w (lo w.heap.size) A n gs) (hn : n ≤ 9223372036854775807) :
    Calls Tryd.prog 19 #[.agg v.cells, .slice A n c] w fun e w' => e = .returned (.int .u64 (backA a gs : Int)) ∧ Below w.heap.size w w' := by
  have hb : Below w.heap.size w (w.alloc (.cells v.cells 38)) := (Below.refl _ _).alloc (Nat.le_refl _) _
  have HC := Lib.hid (read_c v.rb a.cls a.back a.be A n c gs _ (h.call hb).2 (hg.call hb) hn)
  clear h hg
  unfold AV.cells at *
  unfold RV.cells AV.rb at HC
  dsimp only at HC
  unfold backA
  go_enter Tryd.func19, Tryd.ntmps19
  go_wp2_with fail
  refine HC.out.mono ?_
  rintro e w1 ⟨rfl, hb1⟩
  have hb2 := below_call hb hb1
  clear hb1 HC
  go_wp2
  go_ret
  exact ⟨rfl, hb2⟩

set_option maxHeartbeats 1000000 in
theorem tz_core (x k idx : Nat) (w : World) (hx0 : ((x : Int) == 0) = false)
    (_key : bits BinOp.and IntKind.u64 (x : Int) (IntKind.u64.wrap (-(x : Int))) * 285870213051353865 % 18446744073709551616 / 288230376151711744 = (idx : Int))
    (key2 : IntKind.u64.wrap (bits BinOp.and IntKind.u64 (x : Int) (IntKind.u64.wrap (-(x : Int))) * 285870213051353865) / 288230376151711744 = (idx : Int))
    (hi : idx < 64) (hk : k < 64) (hcell : w.cell? ⟨0, idx, none⟩ = some (.int .u8 k)) :
    Calls Tryd.prog 47 #[.int .u64 x] w fun e w' => e = .returned (.int .i64 k) ∧ w = w' := by
  go_enter Tryd.func47, Tryd.ntmps47
  go_wp2_with (simp only [key2])
  go_ret
  exact ⟨rfl, rfl⟩
/-- The table of math/bits. -/
abbrev Tab (w : World) : Prop := TabAt 0 Lib.deBruijn64tab w
theorem Tab.pos {w : World} (h : Tab w) : 0 < w.heap.size := cell_lt (h 0 (by decide))
theorem Tab.call {w w' : World} (h : Tab w) {B : Nat} (k : Below B w w') (hB : 0 < B) : Tab w' := fun j hj => (k.cell (p := ⟨0, j, none⟩) hB).trans (h j hj)
theorem ctz_c (x : Nat) (w : World) (hx : x < 18446744073709551616) (hx0 : x ≠ 0) (hT : Tab w) :
    Calls Tryd.prog 47 #[.int .u64 x] w fun e w' => e = .returned (.int .i64 (Lib.ctz 64 x : Nat)) ∧ w = w' := by
  obtain ⟨hlow, hk⟩ := Lib.lowest_bit 64 x hx0 hx
  obtain ⟨hi, htab⟩ := Lib.deBruijn64_at _ hk
  have hcell := hT _ hi
  rw [htab] at hcell
  have key := tz64_key x _ hx hx0 hlow
  exact tz_core x _ _ w (by simp; omega) (by rw [IntKind.wrap_u64 (_ * _)] at key; exact key) key hi hk hcell
theorem leastA_ctz {x : Nat} (hx : x < 2 ^ 64) (hx0 : x ≠ 0) : leastA x = some (Lib.ctz 64 x) := by
  obtain ⟨m, hm, hk⟩ := Lib.ctzFrom_spec 64 x (by omega) hx
  have e : Lib.ctz 64 x = Lib.ctzFrom 64 x := by unfold Lib.ctz; rw [if_neg hx0]
  rw [e]
  generalize Lib.ctzFrom 64 x = c at *
  have hb : ∀ j, j ≤ c → x.testBit j = decide (j = c) := fun j hj => by
    rw [hm, Nat.testBit_two_pow_mul]
    by_cases h : j = c
    · subst h; simp
    · simp [show ¬ c ≤ j by omega, h]
  cases hl : leastA x with
  | none => exact absurd (leastA_none hl hx) hx0
  | some i =>
    obtain ⟨h1, h2, h3⟩ := leastA_some hl
    congr 1
    rcases Nat.lt_trichotomy i c with h | h | h
    · rw [hb i (by omega)] at h2; simp at h2; omega
    · exact h
    · have := h3 c h; rw [hb c (Nat.le_refl _)] at this; simp at this
/-- What First tells. -/
def firstZ (n : Nat) : Int := match leastA n with | some i => (i : Int) | none => -1
theorem firstZ_0 : firstZ 0 = -1 := by decide
theorem firstZ_ctz {x : Nat} (hx : x < 2 ^ 64) (hx0 : x ≠ 0) : firstZ x = (Lib.ctz 64 x : Nat) := by unfold firstZ; rw [leastA_ctz hx hx0]
theorem readA_lt {cls : List Int} {rows : List (List Int)} {ends : List Nat} (h : ∀ s, bitsA ends s < 18446744073709551616) : ∀ (l : List Int) (s : Int) (acc : Nat), acc < 18446744073709551616 → readA cls rows ends s acc l < 18446744073709551616
  | [], _, _, ha => ha
  | g :: l, s, acc, ha => by
    rw [readA]; split
    · exact ha
    · exact readA_lt h l _ _ (or_lt64 ha (h _))
theorem IsR.bits_lt {w : World} {S : Nat → Prop} {r : RV} {cls : List Int} {rows : List (List Int)} {ends : List Nat} (h : IsR w S r cls rows ends) : ∀ s, bitsA ends s < 18446744073709551616 := bitsA_lt fun _ _ hx => h.e.lt hx
theorem IsA.fore_lt {w : World} {S : Nat → Prop} {v : AV} {a : Au} (h : IsA w S v a) (l : List Int) : foreA a l < 18446744073709551616 := readA_lt h.1.bits_lt _ _ _ (h.1.bits_lt 0)
theorem IsA.back_lt {w : World} {S : Nat → Prop} {v : AV} {a : Au} (h : IsA w S v a) (l : List Int) : backA a l < 18446744073709551616 := readA_lt h.2.bits_lt _ _ _ (h.2.bits_lt 0)

set_option maxRecDepth 100000 in
set_option maxHeartbeats 1000000 in
theorem First_c (v : AV) (a : Au) (A B : Option Addr) (n c m d : Nat) (bs fs : List Int) (w : World) (h : IsA w (lo w.heap.size) v a) (hb : Rd w (lo w.heap.size) A n bs) (hf : Rd w (lo w.heap.size) B m fs) (hn : n ≤ 9223372036854775807) (hm : m ≤ 9223372036854775807) (hT : Tab w) :
    Calls Tryd.prog 23 #[.agg v.cells, .slice A n c, .slice B m d] w fun e w' => e = .returned (.int .i64 (firstZ (backA a bs &&& foreA a fs))) ∧ Below w.heap.size w w' := by
  have hb0 : Below w.heap.size w (w.alloc (.cells v.cells 38)) := (Below.refl _ _).alloc (Nat.le_refl _) _
  have hk := Bk.new w 38 v.cells
  have HA := Lib.hid fun (W : World) (bW : Below w.heap.size w W) => Fore_c v a B m d fs W (h.call bW) (hf.call bW) hm
  have HB := Lib.hid fun (W : World) (bW : Below w.heap.size w W) => Back_c v a A n c bs W (h.call bW) (hb.call bW) hn
  have l1 := h.back_lt bs
  have l2 := h.fore_lt fs
  have HT := Lib.hid fun (W : World) (bW : Below w.heap.size w W) => hT.call bW hT.pos
  clear h hb hf hT
  unfold AV.cells at *
  generalize backA a bs = x at *
  generalize foreA a fs = y at *
  have ha := bits_and_u64_nat x y l1 l2
  have hl : x &&& y < 18446744073709551616 := Nat.lt_of_le_of_lt Nat.and_le_left l1
  obtain ⟨z, hzz⟩ : ∃ z, x &&& y = z := ⟨_, rfl⟩
  rw [hzz] at ha hl ⊢
  have HA1 := Lib.hid ha
  clear ha hzz
  go_enter Tryd.func23, Tryd.ntmps23
  go_wp2
  generalize hw1 : w.alloc (.cells #[.slice v.ca v.cn v.cc, .slice v.fa v.fn v.fc, .slice v.ba v.bn v.bc, .slice v.ea v.en v.ec, .slice v.ga v.gn v.gc] 38) = w1 at *
  clear hw1
  have hb0z : w.heap.size ≤ w1.heap.size := hb0.size

  have HS := Lib.hid fun (W : World) (bW : Below w1.heap.size w1 W) => (show W.cell? ⟨w.heap.size, 0, none⟩ = some (.slice v.ca v.cn v.cc) ∧ W.cell? ⟨w.heap.size, 1, none⟩ = some (.slice v.fa v.fn v.fc) ∧ W.cell? ⟨w.heap.size, 2, none⟩ = some (.slice v.ba v.bn v.bc) ∧ W.cell? ⟨w.heap.size, 3, none⟩ = some (.slice v.ea v.en v.ec) ∧ W.cell? ⟨w.heap.size, 4, none⟩ = some (.slice v.ga v.gn v.gc) from ⟨((hk.below bW hk.lt).cell 0), ((hk.below bW hk.lt).cell 1), ((hk.below bW hk.lt).cell 2), ((hk.below bW hk.lt).cell 3), ((hk.below bW hk.lt).cell 4)⟩)
  have bb := Below.refl w1.heap.size w1
  refine wp_region_held_drew (S := fun w' => w'.cell? ⟨w.heap.size, 0, none⟩ = some (.slice v.ca v.cn v.cc) ∧ w'.cell? ⟨w.heap.size, 1, none⟩ = some (.slice v.fa v.fn v.fc) ∧ w'.cell? ⟨w.heap.size, 2, none⟩ = some (.slice v.ba v.bn v.bc) ∧ w'.cell? ⟨w.heap.size, 3, none⟩ = some (.slice v.ea v.en v.ec) ∧ w'.cell? ⟨w.heap.size, 4, none⟩ = some (.slice v.ga v.gn v.gc)) (by kernel_rfl) ?_ (fun hHeld => ?_)
  · exact HS.out _ (below_drewN bb 1)
  replace bb := below_drewN bb 1
  change Below _ _ w1.drew at bb
  generalize hw0 : w1.drew = W0 at hHeld bb ⊢
  clear hw0
  refine wpAnyH_take (i := 0) (v := ?_) (by simp only [List.getElem?_toArray]; rfl) (by kernel_rfl) (by kernel_rfl) (by kernel_rfl) (by exact fun _ _ _ h => h) (Or.inl ⟨by rfl, ?_⟩) (by assumption) ?_
  rotate_left 1
  · intro w hSw; (try dsimp only at hSw); go_simp; try with_reducible rfl
  try conv => arg 8; simp only [Act.put, List.setIfInBounds_toArray, List.set_cons_zero, List.set_cons_succ]
  refine wpAnyH_take (i := 1) (v := ?_) (by simp only [List.getElem?_toArray]; rfl) (by kernel_rfl) (by kernel_rfl) (by kernel_rfl) (by exact fun _ _ _ h => h) (Or.inl ⟨by rfl, ?_⟩) (by assumption) ?_
  rotate_left 1
  · intro w hSw; (try dsimp only at hSw); go_simp; try with_reducible rfl
  try conv => arg 8; simp only [Act.put, List.setIfInBounds_toArray, List.set_cons_zero, List.set_cons_succ]
  refine wpAnyH_take (i := 3) (v := ?_) (by simp only [List.getElem?_toArray]; rfl) (by kernel_rfl) (by kernel_rfl) (by kernel_rfl) (by exact fun _ _ _ h => h) (Or.inl ⟨by rfl, ?_⟩) (by assumption) ?_
  rotate_left 1
  · intro w hSw; (try dsimp only at hSw); go_simp; try with_reducible rfl
  try conv => arg 8; simp only [Act.put, List.setIfInBounds_toArray, List.set_cons_zero, List.set_cons_succ]
  refine wpAnyH_take (i := 4) (v := ?_) (by simp only [List.getElem?_toArray]; rfl) (by kernel_rfl) (by kernel_rfl) (by kernel_rfl) (by exact fun _ _ _ h => h) (Or.inl ⟨by rfl, ?_⟩) (by assumption) ?_
  rotate_left 1
  · intro w hSw; (try dsimp only at hSw); go_simp; try with_reducible rfl
  try conv => arg 8; simp only [Act.put, List.setIfInBounds_toArray, List.set_cons_zero, List.set_cons_succ]
  refine wpAnyH_ready (rs := [2]) (by kernel_rfl) (by simp) ?_
  refine AllReadyH.cons (by simp only [List.getElem?_toArray]; rfl) (fun K hK => ?_) AllReadyH.nil
  refine wanted_pos (by kernel_rfl) ?_
  go_simp
  clear hHeld
  go_at_call 19
  (with_reducible refine (HB.out W0 (hb0.trans (bb.mono hb0z))).mono ?_)
  rintro e W1 ⟨rfl, bn⟩
  go_wp2_with fail
  refine hK.out _ _ ?_ (fun hHeld => ?_)
  · exact HS.out _ (bb.trans (bn.mono bb.size))
  clear hK K
  try conv => arg 8; simp only [Act.put, List.setIfInBounds_toArray, List.set_cons_zero, List.set_cons_succ]
  replace bb := bb.trans (bn.mono bb.size)
  clear bn
  refine wpAnyH_ready (rs := [5]) (by kernel_rfl) (by simp) ?_
  refine AllReadyH.cons (by simp only [List.getElem?_toArray]; rfl) (fun K hK => ?_) AllReadyH.nil
  refine wanted_pos (by kernel_rfl) ?_
  go_simp
  clear hHeld
  go_at_call 20
  (with_reducible refine (HA.out W1 (hb0.trans (bb.mono hb0z))).mono ?_)
  rintro e W2 ⟨rfl, bn⟩
  go_wp2_with fail
  refine hK.out _ _ ?_ (fun hHeld => ?_)
  · exact HS.out _ (bb.trans (bn.mono bb.size))
  clear hK K
  try conv => arg 8; simp only [Act.put, List.setIfInBounds_toArray, List.set_cons_zero, List.set_cons_succ]
  replace bb := bb.trans (bn.mono bb.size)
  clear bn
  refine wpAnyH_take (i := 6) (v := ?_) (by simp only [List.getElem?_toArray]; rfl) (by kernel_rfl) (by kernel_rfl) (by kernel_rfl) (by exact fun _ _ _ h => h) (Or.inl ⟨by rfl, ?_⟩) (by assumption) ?_
  rotate_left 1
  · intro w hSw; (try dsimp only at hSw); go_simp; try with_reducible rfl
  try conv => arg 8; simp only [Act.put, List.setIfInBounds_toArray, List.set_cons_zero, List.set_cons_succ]
  refine wpAnyH_take (i := 7) (v := ?_) (by simp only [List.getElem?_toArray]; rfl) (by kernel_rfl) (by kernel_rfl) (by kernel_rfl) (by exact fun _ _ _ h => h) (Or.inl ⟨by rfl, ?_⟩) (by assumption) ?_
  rotate_left 1
  · intro w hSw; (try dsimp only at hSw); go_simp; try with_reducible rfl
  try conv => arg 8; simp only [Act.put, List.setIfInBounds_toArray, List.set_cons_zero, List.set_cons_succ]
  refine wpAnyH_done (by kernel_rfl) ?_ _
  clear hHeld
  have bW := hb0.trans (bb.mono hb0z)
  have HT2 := Lib.hid (HT.out _ bW)
  clear HT HA HB HS bb hb0
  try rw [HA1.out]
  by_cases hz : z = 0
  · subst hz
    clear HA1
    go_wp2
    go_ret
    exact ⟨ret_int firstZ_0.symm, bW⟩
  · have e0 : ((z : Int) == 0) = false := by simp; omega
    have e1 : (z == 0) = false := by simpa using hz
    have HC := Lib.hid (ctz_c z W2 hl hz HT2.out)
    clear HA1
    go_wp2_with (go_at_call 47; refine HC.out.mono ?_; rintro e w' ⟨rfl, rfl⟩)
    go_ret
    exact ⟨ret_int (firstZ_ctz hl hz).symm, bW⟩

end Go.Proofs.YtgcmedkaadagmaaDoor
