/- Walks: a reader's bits, next, read; Fore and Back. -/
import Derived.Test.YtgcmedkaadagmaaDoorOw
import Derived.Test.YtgcmedkaadagmaaDoorAU4
import Derived.Laws.Bits64b
namespace Go.Proofs.YtgcmedkaadagmaaDoor
open Go.RowKit

def EU (cs : List Value) (x : Nat) : Prop := cs = [.int .u64 (x : Int)] ∧ x < 18446744073709551616
def RdU (w : World) (S : Nat → Prop) (A : Option Addr) (n : Nat) (xs : List Nat) : Prop := SlE 1 EU w S A n xs
theorem RdU.mono {w w' : World} {S S' : Nat → Prop} {A : Option Addr} {n : Nat} {xs : List Nat} (h : RdU w S A n xs) (hS : ∀ b, S b → S' b) (hk : Kept S w w') : RdU w' S' A n xs := SlE.mono h hS hk fun _ _ h => h
/-- A reader's three cells. -/
structure RV where
  ca : Option Addr
  cn : Nat
  cc : Nat
  ta : Option Addr
  tn : Nat
  tc : Nat
  ea : Option Addr
  en : Nat
  ec : Nat
abbrev RV.cells (r : RV) : Array Value := #[.slice r.ca r.cn r.cc, .slice r.ta r.tn r.tc, .slice r.ea r.en r.ec]
structure IsR (w : World) (S : Nat → Prop) (r : RV) (cls : List Int) (rows : List (List Int)) (ends : List Nat) : Prop where
  c : Rd w S r.ca r.cn cls
  t : RdV w S r.ta r.tn rows
  e : RdU w S r.ea r.en ends
  hc : Hd r.cn r.cc
  ht : Hd r.tn r.tc
  he : Hd r.en r.ec
theorem IsR.mono {w w' : World} {S S' : Nat → Prop} {r : RV} {cls : List Int} {rows : List (List Int)} {ends : List Nat} (h : IsR w S r cls rows ends) (hS : ∀ b, S b → S' b) (hk : Kept S w w') : IsR w' S' r cls rows ends := ⟨h.c.mono hS hk, h.t.mono hS hk, h.e.mono hS hk, h.hc, h.ht, h.he⟩
theorem IsR.call {w w' : World} {r : RV} {cls : List Int} {rows : List (List Int)} {ends : List Nat} (h : IsR w (lo w.heap.size) r cls rows ends) (k : Below w.heap.size w w') : IsR w' (lo w'.heap.size) r cls rows ends := h.mono (lo_mono k.size) (kept_below k)

theorem bitsA_out {ends : List Nat} {s : Int} (h : s < 0 ∨ (ends.length : Int) ≤ s) : bitsA ends s = 0 := by
  unfold bitsA
  split
  · rfl
  · rw [List.getElem?_eq_none (by omega)]; rfl
theorem bitsA_in {ends : List Nat} {k x : Nat} (h : ends[k]? = some x) : bitsA ends (k : Int) = x := by
  unfold bitsA; rw [if_neg (by omega), Int.toNat_natCast, h]; rfl

set_option maxRecDepth 100000 in
set_option maxHeartbeats 400000 in
theorem bits_c (r : RV) (cls : List Int) (rows : List (List Int)) (ends : List Nat) (s : Int) (w : World) (h : IsR w (lo w.heap.size) r cls rows ends) :
    Calls Tryd.prog 67 #[.agg r.cells, .int .i64 s] w fun e w' => e = .returned (.int .u64 (bitsA ends s : Int)) ∧ Below w.heap.size w w' := by
  have hl := h.e.len
  have h1 := h.he.1
  have h2 := h.he.2
  by_cases h0 : s < 0
  · rw [bitsA_out (.inl h0)]
    clear hl h
    have t0 : decide (s < 0) = true := by simp; omega
    go_enter Tryd.func67, Tryd.ntmps67
    go_wp2
    go_ret
    exact ⟨rfl, (Below.refl _ _).alloc (Nat.le_refl _) _⟩
  · have t0 : decide (s < 0) = false := by simp; omega
    by_cases hk : (r.en : Int) ≤ s
    · rw [bitsA_out (.inr (by omega))]
      clear hl h
      have t1 : decide ((r.en : Int) ≤ s) = true := by simp; omega
      go_enter Tryd.func67, Tryd.ntmps67
      go_wp2
      go_ret
      exact ⟨rfl, (Below.refl _ _).alloc (Nat.le_refl _) _⟩
    · obtain ⟨k, rfl⟩ : ∃ j : Nat, s = j := ⟨s.toNat, by omega⟩
      have t1 : decide ((r.en : Int) ≤ (k : Int)) = false := by simp; omega
      have t2 : decide (r.en ≤ k) = false := by simp; omega
      obtain ⟨x, hx⟩ := at_some ends k (by omega)
      obtain ⟨b, o, ha, hb, hc⟩ := h.e.pos (by omega)
      obtain ⟨cs, ⟨rfl, _⟩, hcc⟩ := hc k x hx
      have g0 := hcc 0 _ rfl
      rw [Nat.mul_one, Nat.add_zero] at g0
      rw [bitsA_in hx]
      have kz : (0 : Int) ≤ (k : Int) := by omega
      have kn : (k : Int) < (r.en : Int) := by omega
      have g1 := cell_alloc g0 (.cells r.cells 98)
      unfold RV.cells at g1 ⊢
      rw [ha] at g1 ⊢
      clear hx hc hcc hl h ha g0
      go_enter Tryd.func67, Tryd.ntmps67
      go_wp2
      go_ret
      exact ⟨rfl, (Below.refl _ _).alloc (Nat.le_refl _) _⟩

theorem stepA_s0 {cls : List Int} {rows : List (List Int)} {s g : Int} (h : s < 0) : stepA cls rows s g = -1 := by
  unfold stepA; rw [if_pos (by omega)]
theorem stepA_s1 {cls : List Int} {rows : List (List Int)} {s g : Int} (h : (rows.length : Int) ≤ s) : stepA cls rows s g = -1 := by
  unfold stepA; rw [if_pos (by omega)]
theorem stepA_g0 {cls : List Int} {rows : List (List Int)} {s g : Int} (h : g < 0) : stepA cls rows s g = -1 := by
  unfold stepA; rw [if_pos (by omega)]
theorem stepA_g1 {cls : List Int} {rows : List (List Int)} {s g : Int} (h : (cls.length : Int) ≤ g) : stepA cls rows s g = -1 := by
  unfold stepA; rw [if_pos (by omega)]
theorem getD_of {α : Type} {xs : List α} {k : Nat} {x d : α} (h : xs[k]? = some x) : xs.getD k d = x := by rw [List.getD_eq_getElem?_getD, h]; rfl
theorem stepA_in {cls : List Int} {rows : List (List Int)} {k j : Nat} {row : List Int} {c : Int} (h1 : rows[k]? = some row) (h2 : cls[j]? = some c) :
    stepA cls rows (k : Int) (j : Int) = if c < 0 ∨ (row.length : Int) ≤ c then -1 else if 0 ≤ row.getD c.toNat 0 ∧ row.getD c.toNat 0 < (rows.length : Int) then row.getD c.toNat 0 else -1 := by
  have l1 := (List.getElem?_eq_some_iff.1 h1).1
  have l2 := (List.getElem?_eq_some_iff.1 h2).1
  unfold stepA
  rw [if_neg (by omega)]
  dsimp only
  rw [Int.toNat_natCast, Int.toNat_natCast, getD_of h1, getD_of h2]

set_option maxRecDepth 100000 in
set_option maxHeartbeats 1000000 in
theorem next_c (r : RV) (cls : List Int) (rows : List (List Int)) (ends : List Nat) (s g : Int) (w : World) (h : IsR w (lo w.heap.size) r cls rows ends) :
    Calls Tryd.prog 68 #[.agg r.cells, .int .i64 s, .int .i64 g] w fun e w' => e = .returned (.int .i64 (stepA cls rows s g)) ∧ Below w.heap.size w w' := by
  have lc := h.c.len
  have lt := h.t.len
  have hc1 := h.hc.1
  have hc2 := h.hc.2
  have ht1 := h.ht.1
  have ht2 := h.ht.2
  by_cases s0 : s < 0
  · rw [stepA_s0 s0]
    clear lc lt h
    have t0 : decide (s < 0) = true := by simp; omega
    go_enter Tryd.func68, Tryd.ntmps68
    go_wp2
    go_ret
    exact ⟨rfl, (Below.refl _ _).alloc (Nat.le_refl _) _⟩
  have t0 : decide (s < 0) = false := by simp; omega
  by_cases s1 : (r.tn : Int) ≤ s
  · rw [stepA_s1 (by omega)]
    clear lc lt h
    have t1 : decide ((r.tn : Int) ≤ s) = true := by simp; omega
    go_enter Tryd.func68, Tryd.ntmps68
    go_wp2
    go_ret
    exact ⟨rfl, (Below.refl _ _).alloc (Nat.le_refl _) _⟩
  obtain ⟨k, rfl⟩ : ∃ j : Nat, s = j := ⟨s.toNat, by omega⟩
  have t1 : decide ((r.tn : Int) ≤ (k : Int)) = false := by simp; omega
  have t1' : decide (r.tn ≤ k) = false := by simp; omega
  by_cases g0 : g < 0
  · rw [stepA_g0 g0]
    clear lc lt h
    have t2 : decide (g < 0) = true := by simp; omega
    go_enter Tryd.func68, Tryd.ntmps68
    go_wp2
    go_ret
    exact ⟨rfl, (Below.refl _ _).alloc (Nat.le_refl _) _⟩
  have t2 : decide (g < 0) = false := by simp; omega
  by_cases g1 : (r.cn : Int) ≤ g
  · rw [stepA_g1 (by omega)]
    clear lc lt h
    have t3 : decide ((r.cn : Int) ≤ g) = true := by simp; omega
    go_enter Tryd.func68, Tryd.ntmps68
    go_wp2
    go_ret
    exact ⟨rfl, (Below.refl _ _).alloc (Nat.le_refl _) _⟩
  obtain ⟨j, rfl⟩ : ∃ j : Nat, g = j := ⟨g.toNat, by omega⟩
  have t3 : decide ((r.cn : Int) ≤ (j : Int)) = false := by simp; omega
  have t3' : decide (r.cn ≤ j) = false := by simp; omega
  have hb : Below w.heap.size w (w.alloc (.cells r.cells 98)) := (Below.refl _ _).alloc (Nat.le_refl _) _
  have h' := h.call hb
  obtain ⟨row, hrow⟩ := at_some rows k (by omega)
  obtain ⟨c, hcl⟩ := at_some cls j (by omega)
  obtain ⟨b1, o1, ha1, _, hcc1⟩ := h'.t.pos (by omega)
  obtain ⟨cs1, ⟨A, n, cp, rfl, hA, hd⟩, e1⟩ := hcc1 k row hrow
  have x1 := e1 0 _ rfl
  rw [Nat.mul_one, Nat.add_zero] at x1
  obtain ⟨b2, o2, ha2, _, hcc2⟩ := h'.c.pos (by omega)
  obtain ⟨cs2, rfl, e2⟩ := hcc2 j c hcl
  have x2 := e2 0 _ rfl
  rw [Nat.mul_one, Nat.add_zero] at x2
  rw [stepA_in hrow hcl, lt]
  have ln := hA.len
  have hd1 := hd.1
  have hd2 := hd.2
  unfold RV.cells at x1 x2 hA hb ⊢
  rw [ha1, ha2] at x1 x2 hA hb ⊢
  clear hcc1 hcc2 e1 e2 hrow hcl h h' ha1 ha2 lc lt
  have kz : (0 : Int) ≤ (k : Int) := by omega
  have kn : (k : Int) < (r.tn : Int) := by omega
  have jz : (0 : Int) ≤ (j : Int) := by omega
  have jn : (j : Int) < (r.cn : Int) := by omega
  by_cases c0 : c < 0
  · rw [if_pos (by omega)]
    clear hA ln
    have t4 : decide (c < 0) = true := by simp; omega
    go_enter Tryd.func68, Tryd.ntmps68
    go_wp2
    go_quiet (fail)
    go_wp2
    go_ret
    exact ⟨rfl, below_drewN hb _⟩
  have t4 : decide (c < 0) = false := by simp; omega
  by_cases c1 : (n : Int) ≤ c
  · rw [if_pos (by omega)]
    clear hA ln
    have t5 : decide ((n : Int) ≤ c) = true := by simp; omega
    go_enter Tryd.func68, Tryd.ntmps68
    go_wp2
    go_quiet (fail)
    go_wp2
    go_ret
    exact ⟨rfl, below_drewN hb _⟩
  obtain ⟨q, rfl⟩ : ∃ q : Nat, c = q := ⟨c.toNat, by omega⟩
  have t5 : decide ((n : Int) ≤ (q : Int)) = false := by simp; omega
  have t5' : decide (n ≤ q) = false := by simp; omega
  obtain ⟨x, hx⟩ := at_some row q (by omega)
  obtain ⟨b3, o3, rfl, _, hcc3⟩ := hA.pos (by omega)
  obtain ⟨cs3, rfl, e3⟩ := hcc3 q x hx
  have x3 := e3 0 _ rfl
  rw [Nat.mul_one, Nat.add_zero] at x3
  rw [if_neg (by omega), Int.toNat_natCast, getD_of hx]
  clear hcc3 e3 hx hA ln
  have qz : (0 : Int) ≤ (q : Int) := by omega
  have qn : (q : Int) < (n : Int) := by omega
  by_cases y0 : 0 ≤ x
  · by_cases y1 : x < (r.tn : Int)
    · rw [if_pos ⟨y0, y1⟩]
      go_enter Tryd.func68, Tryd.ntmps68
      go_wp2
      go_quiet (fail)
      go_wp2
      go_ret
      exact ⟨rfl, below_drewN hb _⟩
    · rw [if_neg (by omega)]
      have t6 : decide (x < (r.tn : Int)) = false := by simp; omega
      go_enter Tryd.func68, Tryd.ntmps68
      go_wp2
      go_quiet (fail)
      go_wp2
      go_ret
      exact ⟨rfl, below_drewN hb _⟩
  · rw [if_neg (by omega)]
    have t6 : decide (0 ≤ x) = false := by simp; omega
    go_enter Tryd.func68, Tryd.ntmps68
    go_wp2
    go_quiet (fail)
    go_wp2
    go_ret
    exact ⟨rfl, below_drewN hb _⟩

end Go.Proofs.YtgcmedkaadagmaaDoor
