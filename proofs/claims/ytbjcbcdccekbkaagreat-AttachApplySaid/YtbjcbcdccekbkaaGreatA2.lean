/- Walks: Width; a run while it is placed: mark, anchors. -/
import Derived.Test.YtbjcbcdccekbkaaGreatA1
namespace Go.Proofs.YtbjcbcdccekbkaaGreat
open Go.RowKit Go.Shelf

theorem widthL_next {run : List Itm} {j : Nat} {it : Itm} (h : run[j]? = some it) : widthL w64 (run.take (j + 1)) = wrap64 (widthL w64 (run.take j) + it.a) := by
  unfold widthL; rw [List.take_add_one, h]; simp [w64]

set_option maxRecDepth 100000 in
set_option maxHeartbeats 400000 in
theorem width_c (A : Option Addr) (n c : Nat) (run : List Itm) (w : World) (h : RdI w (lo w.heap.size) A n run) (hn : n ≤ 9223372036854775806) :
    Calls Tryz.prog 19 #[.slice A n c] w fun e w' => e = .returned (.int .i64 (widthL w64 run)) ∧ Below w.heap.size w w' := by
  have HL := Lib.hid h.len
  go_enter Tryz.func19, Tryz.ntmps19
  go_wp2
  go_loopw [3, 8] (fun s i wr => ∃ j : Nat, j ≤ n ∧ i = .int .i64 j ∧ s = .int .i64 (widthL w64 (run.take j)) ∧ Below w.heap.size w wr) (fun _ i _ => n - (intOf i).toNat)
  case atStart => exact ⟨0, by omega, rfl, rfl, Below.refl _ _⟩
  case round =>
    obtain ⟨j, hj, rfl, rfl, hbr⟩ := hrel
    by_cases hlt : j < n
    · obtain ⟨it, hit⟩ := at_some run j (by have := HL.out; omega)
      obtain ⟨b, o, rfl, _, hc⟩ := h.pos (by omega)
      obtain ⟨cs, rfl, hcc⟩ := hc j it hit
      have g0 := cell_call (hcc 0 _ rfl) hbr
      have g1 := cell_call (hcc 1 _ rfl) hbr
      have g2 := cell_call (hcc 2 _ rfl) hbr
      have g3 := cell_call (hcc 3 _ rfl) hbr
      have g4 := cell_call (hcc 4 _ rfl) hbr
      have g5 := cell_call (hcc 5 _ rfl) hbr
      rw [Nat.add_zero] at g0
      have HN := Lib.hid (widthL_next hit)
      have jz : (0 : Int) ≤ (j : Int) := by omega
      have jn : (j : Int) < (n : Int) := by omega
      clear hit hc hcc
      go_wp2
      go_roundw
      case rel => exact ⟨j + 1, by omega, by go_num, by rw [HN.out], hbr.alloc hbr.size _⟩
      case measure => simp [intOf]; omega
    · go_wp2
      go_ret
      exact ⟨ret_int (by rw [List.take_of_length_le (by have := HL.out; omega)]), hbr⟩

/-- The cells of a placing. -/
abbrev plC (f : FV) (kd : Int) (ign : Bool) (LA : Option Addr) (ll lc : Nat) (num : Int) (RA : Option Addr) (rn rc : Nat) : Array Value := #[.int .i64 f.u0, .slice f.ga f.gn f.gc, .slice f.ca f.cn f.cc, .slice f.la f.ln f.lc, .slice f.a4 f.n4 f.c4, .slice f.a5 f.n5 f.c5, .slice f.a6 f.n6 f.c6, .slice f.a7 f.n7 f.c7, .slice f.a8 f.n8 f.c8, .int .i64 kd, .bool ign, .slice LA ll lc, .int .i64 num, .slice RA rn rc]
/-- A run while it is placed: from block B on all is its own. -/
structure PS (B : Nat) (W : World) (Bp : Nat) (f : FV) (F : Fnt) (kd : Int) (ign : Bool) (LA : Option Addr) (ll lc : Nat) (num : Int) (RA : Option Addr) (rn rc : Nat) (run : List Itm) : Prop where
  hB : B ≤ W.heap.size
  lp : B ≤ Bp
  pk : Bk W Bp 53 (plC f kd ign LA ll lc num RA rn rc)
  font : IsF W (lo B) f F
  own : Ow 57 6 W B RA rn rc (itc run)
section
variable {B : Nat} {W W' : World} {Bp : Nat} {f : FV} {F : Fnt} {kd : Int} {ign : Bool} {LA : Option Addr} {ll lc : Nat} {num : Int} {RA : Option Addr} {rn rc : Nat} {run : List Itm}
theorem PS.len (h : PS B W Bp f F kd ign LA ll lc num RA rn rc run) : run.length = rn := h.own.rdI.len
theorem PS.c1 (h : PS B W Bp f F kd ign LA ll lc num RA rn rc run) : W.cell? ⟨Bp, 1, none⟩ = some (.slice f.ga f.gn f.gc) := by have := h.pk.cell 1; simpa using this
theorem PS.c9 (h : PS B W Bp f F kd ign LA ll lc num RA rn rc run) : W.cell? ⟨Bp, 9, none⟩ = some (.int .i64 kd) := by have := h.pk.cell 9; simpa using this
theorem PS.c10 (h : PS B W Bp f F kd ign LA ll lc num RA rn rc run) : W.cell? ⟨Bp, 10, none⟩ = some (.bool ign) := by have := h.pk.cell 10; simpa using this
theorem PS.c12 (h : PS B W Bp f F kd ign LA ll lc num RA rn rc run) : W.cell? ⟨Bp, 12, none⟩ = some (.int .i64 num) := by have := h.pk.cell 12; simpa using this
theorem PS.c13 (h : PS B W Bp f F kd ign LA ll lc num RA rn rc run) : W.cell? ⟨Bp, 13, none⟩ = some (.slice RA rn rc) := by have := h.pk.cell 13; simpa using this
theorem PS.call (h : PS B W Bp f F kd ign LA ll lc num RA rn rc run) (hb : Below W.heap.size W W') : PS B W' Bp f F kd ign LA ll lc num RA rn rc run :=
  ⟨Nat.le_trans h.hB hb.size, h.lp, h.pk.below hb h.pk.lt, h.font.mono (fun _ h => h) (kept_below (hb.mono h.hB)), h.own.call hb⟩
theorem PS.fontU (h : PS B W Bp f F kd ign LA ll lc num RA rn rc run) : IsF W (lo W.heap.size) f F := h.font.up h.hB
theorem PS.ne {g : Nat} (h : PS B W Bp f F kd ign LA ll lc num (some ⟨g, 0, none⟩) rn rc run) : Bp ≠ g := fun e => by
  subst e
  obtain ⟨_, _, _, cur, hh⟩ := h.own.blk _ rfl
  have hw := h.pk
  unfold Bk at hw; rw [hw] at hh; injection hh with hh; injection hh with _ h2; revert h2; decide
theorem PS.store {g : Nat} {run' : List Itm} (h : PS B W Bp f F kd ign LA ll lc num (some ⟨g, 0, none⟩) rn rc run) (q : Nat) (v : Value) (he : (itc run).set q v = itc run') :
    PS B (W.setCell ⟨g, q, none⟩ v) Bp f F kd ign LA ll lc num (some ⟨g, 0, none⟩) rn rc run' ∧ Below B W (W.setCell ⟨g, q, none⟩ v) := by
  have hbl : Below B W (W.setCell ⟨g, q, none⟩ v) := (Below.refl _ _).setCell (p := ⟨g, q, none⟩) (h.own.blk g rfl).1 v
  exact ⟨⟨by simp; exact h.hB, h.lp, h.pk.far h.ne _, h.font.mono (fun _ h => h) (kept_below hbl), by rw [← he]; exact h.own.stored q v⟩, hbl⟩
theorem PS.drew_ (h : PS B W Bp f F kd ign LA ll lc num RA rn rc run) : PS B W.drew Bp f F kd ign LA ll lc num RA rn rc run := h.call ⟨rfl, rfl, rfl, Nat.le_refl _, fun _ _ => rfl⟩
theorem PS.drewN_ (h : PS B W Bp f F kd ign LA ll lc num RA rn rc run) (d : Nat) : PS B (W.drewN d) Bp f F kd ign LA ll lc num RA rn rc run := h.call ⟨rfl, rfl, rfl, Nat.le_refl _, fun _ _ => rfl⟩
end

set_option maxRecDepth 100000 in
set_option maxHeartbeats 400000 in
theorem pmark_c (B Bp : Nat) (f : FV) (F : Fnt) (kd : Int) (ign : Bool) (LA : Option Addr) (ll lc : Nat) (num : Int) (RA : Option Addr) (rn rc : Nat) (run : List Itm) (i : Nat) (W : World) (hs : PS B W Bp f F kd ign LA ll lc num RA rn rc run) (hi : i < run.length) (hrn : rn ≤ 9223372036854775807) :
    Calls Tryz.prog 27 #[.pointer (some ⟨Bp, 0, none⟩), .int .i64 (i : Int)] W fun e W' => e = .returned (.bool (isMark F (gAt run i))) ∧ W = W' := by
  obtain ⟨it, hit⟩ := at_some run i hi
  rw [gAt_some hit]
  have hrl := hs.len
  obtain ⟨gi, rfl, _, _⟩ := hs.own.form (by omega)
  have i0 := hs.own.cell (itc_at hit (j := 0) (v := .int .i64 it.g) rfl)
  rw [Nat.add_zero] at i0
  have c13 := hs.c13
  have c1 := hs.c1
  obtain ⟨hg, _, hd, _⟩ := hs.fontU
  have hl := hg.len
  have hd1 := hd.1
  have hd2 := hd.2
  have iz : (0 : Int) ≤ (i : Int) := by omega
  have ir : (i : Int) < (rn : Int) := by omega
  generalize it.g = g at *
  clear hit hs hrl hi
  by_cases h0 : g < 0
  · have e := isMark_out (F := F) (.inl h0)
    rw [e]; clear e hl
    have t0 : decide (0 ≤ g) = false := by simp; omega
    go_enter Tryz.func27, Tryz.ntmps27
    go_wp2
    go_ret
    exact ⟨rfl, rfl⟩
  · by_cases h1 : (f.gn : Int) ≤ g
    · have e := isMark_out (F := F) (g := g) (.inr (by omega))
      rw [e]; clear e hl
      have t0 : decide (0 ≤ g) = true := by simp; omega
      have t1 : decide (g < (f.gn : Int)) = false := by simp; omega
      go_enter Tryz.func27, Tryz.ntmps27
      go_wp2
      go_ret
      exact ⟨rfl, rfl⟩
    · obtain ⟨k, rfl⟩ : ∃ k : Nat, g = k := ⟨g.toNat, by omega⟩
      obtain ⟨b, o, ha, _, hc⟩ := hg.pos (by omega)
      obtain ⟨x, hx⟩ := at_some F.gly k (by omega)
      obtain ⟨cs, ⟨u0, u1, u3, u4, u5, A, n, c, u7, u8, rfl, _⟩, hcc⟩ := hc k x hx
      have c2 := hcc 2 _ rfl
      rw [ha] at c1
      rw [isMark_in hx]
      clear hx hc hcc hl
      have t0 : (0 : Int) ≤ (k : Int) := by omega
      have t1 : (k : Int) < (f.gn : Int) := by omega
      go_enter Tryz.func27, Tryz.ntmps27
      go_wp2
      go_ret
      exact ⟨rfl, rfl⟩

set_option maxRecDepth 100000 in
set_option maxHeartbeats 400000 in
theorem panchors_c (B Bp : Nat) (f : FV) (F : Fnt) (kd : Int) (ign : Bool) (LA : Option Addr) (ll lc : Nat) (num : Int) (RA : Option Addr) (rn rc : Nat) (run : List Itm) (i : Nat) (W : World) (hs : PS B W Bp f F kd ign LA ll lc num RA rn rc run) (hi : i < run.length) (hrn : rn ≤ 9223372036854775807) :
    Calls Tryz.prog 41 #[.pointer (some ⟨Bp, 0, none⟩), .int .i64 (i : Int)] W fun e W' => ∃ A n c, e = .returned (.slice A n c) ∧ RdA W (lo B) A n (ancOf F (gAt run i)) ∧ Hd n c ∧ W = W' := by
  obtain ⟨it, hit⟩ := at_some run i hi
  rw [gAt_some hit]
  have hrl := hs.len
  obtain ⟨gi, rfl, _, _⟩ := hs.own.form (by omega)
  have i0 := hs.own.cell (itc_at hit (j := 0) (v := .int .i64 it.g) rfl)
  rw [Nat.add_zero] at i0
  have c13 := hs.c13
  have c1 := hs.c1
  obtain ⟨hg, _, hd, _⟩ := hs.font
  have hl := hg.len
  have hd1 := hd.1
  have hd2 := hd.2
  have iz : (0 : Int) ≤ (i : Int) := by omega
  have ir : (i : Int) < (rn : Int) := by omega
  generalize it.g = g at *
  clear hit hs hrl hi
  by_cases h0 : g < 0
  · have e := ancOf_out (F := F) (.inl h0)
    have E := Lib.hid e; clear e hl
    go_enter Tryz.func41, Tryz.ntmps41
    go_wp2
    go_ret
    exact ⟨_, _, _, rfl, by rw [E.out]; exact SlE.nil, ⟨by omega, by omega⟩, rfl⟩
  · have t0 : decide (g < 0) = false := by simp; omega
    by_cases h1 : (f.gn : Int) ≤ g
    · have e := ancOf_out (F := F) (g := g) (.inr (by omega))
      have E := Lib.hid e; clear e hl
      go_enter Tryz.func41, Tryz.ntmps41
      go_wp2
      go_ret
      exact ⟨_, _, _, rfl, by rw [E.out]; exact SlE.nil, ⟨by omega, by omega⟩, rfl⟩
    · have t1 : decide ((f.gn : Int) ≤ g) = false := by simp; omega
      obtain ⟨k, rfl⟩ : ∃ k : Nat, g = k := ⟨g.toNat, by omega⟩
      have t2 : decide (f.gn ≤ k) = false := by simp; omega
      obtain ⟨b, o, ha, _, hc⟩ := hg.pos (by omega)
      obtain ⟨x, hx⟩ := at_some F.gly k (by omega)
      obtain ⟨cs, ⟨u0, u1, u3, u4, u5, A, n, c, u7, u8, rfl, hA, hdA⟩, hcc⟩ := hc k x hx
      have c6 := hcc 6 _ rfl
      rw [ha] at c1
      have E := Lib.hid (ancOf_in hx)
      clear hx hc hcc hl
      have t3 : (0 : Int) ≤ (k : Int) := by omega
      have t4 : (k : Int) < (f.gn : Int) := by omega
      go_enter Tryz.func41, Tryz.ntmps41
      go_wp2
      go_ret
      exact ⟨_, _, _, rfl, by rw [E.out]; exact hA, hdA, rfl⟩

end Go.Proofs.YtbjcbcdccekbkaaGreat
