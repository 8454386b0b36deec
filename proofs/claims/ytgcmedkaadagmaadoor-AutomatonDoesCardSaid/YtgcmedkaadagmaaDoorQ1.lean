/- Walks: the document's Bits, Step, Read, Fore, Back, Least. -/
import Derived.Test.YtgcmedkaadagmaaDoorV5
namespace Go.Proofs.YtgcmedkaadagmaaDoor
open Go.RowKit Go.Shelf

set_option maxRecDepth 100000 in
set_option maxHeartbeats 400000 in
theorem dbits_c (A : Option Addr) (n c : Nat) (ends : List Nat) (s : Int) (w : World) (h : RdU w (lo w.heap.size) A n ends) (hh : Hd n c) :
    Calls Tryd.prog 72 #[.slice A n c, .int .i64 s] w fun e w' => e = .returned (.int .u64 (bitsA ends s : Int)) ∧ Below w.heap.size w w' := by
  have hl := h.len
  have h1 := hh.1
  have h2 := hh.2
  by_cases h0 : s < 0
  · rw [bitsA_out (.inl h0)]
    clear hl h
    have t0 : decide (s < 0) = true := by simp; omega
    go_enter Tryd.func72, Tryd.ntmps72
    go_wp2
    go_ret
    exact ⟨rfl, Below.refl _ _⟩
  · have t0 : decide (s < 0) = false := by simp; omega
    by_cases hk : (n : Int) ≤ s
    · rw [bitsA_out (.inr (by omega))]
      clear hl h
      have t1 : decide ((n : Int) ≤ s) = true := by simp; omega
      go_enter Tryd.func72, Tryd.ntmps72
      go_wp2
      go_ret
      exact ⟨rfl, Below.refl _ _⟩
    · obtain ⟨k, rfl⟩ : ∃ j : Nat, s = j := ⟨s.toNat, by omega⟩
      have t1 : decide ((n : Int) ≤ (k : Int)) = false := by simp; omega
      have t2 : decide (n ≤ k) = false := by simp; omega
      obtain ⟨x, hx⟩ := at_some ends k (by omega)
      obtain ⟨b, o, ha, hb, hc⟩ := h.pos (by omega)
      obtain ⟨cs, ⟨rfl, _⟩, hcc⟩ := hc k x hx
      have g0 := hcc 0 _ rfl
      rw [Nat.mul_one, Nat.add_zero] at g0
      rw [bitsA_in hx]
      have kz : (0 : Int) ≤ (k : Int) := by omega
      have kn : (k : Int) < (n : Int) := by omega
      subst ha
      clear hx hc hcc hl h
      go_enter Tryd.func72, Tryd.ntmps72
      go_wp2
      go_ret
      exact ⟨rfl, Below.refl _ _⟩

set_option maxRecDepth 100000 in
set_option maxHeartbeats 1000000 in
theorem dstep_c (CA : Option Addr) (cn cc : Nat) (cls : List Int) (TA : Option Addr) (tn tc : Nat) (rows : List (List Int)) (s g : Int) (w : World) (hc : Rd w (lo w.heap.size) CA cn cls) (hch : Hd cn cc) (ht : RdV w (lo w.heap.size) TA tn rows) (hth : Hd tn tc) :
    Calls Tryd.prog 73 #[.slice CA cn cc, .slice TA tn tc, .int .i64 s, .int .i64 g] w fun e w' => e = .returned (.int .i64 (stepA cls rows s g)) ∧ Below w.heap.size w w' := by
  have lc := hc.len
  have lt := ht.len
  have hc1 := hch.1
  have hc2 := hch.2
  have ht1 := hth.1
  have ht2 := hth.2
  by_cases g0 : g < 0
  · rw [stepA_g0 g0]
    clear lc lt hc ht
    have t0 : decide (g < 0) = true := by simp; omega
    go_enter Tryd.func73, Tryd.ntmps73
    go_wp2
    go_ret
    exact ⟨rfl, Below.refl _ _⟩
  have t0 : decide (g < 0) = false := by simp; omega
  by_cases g1 : (cn : Int) ≤ g
  · rw [stepA_g1 (by omega)]
    clear lc lt hc ht
    have t1 : decide ((cn : Int) ≤ g) = true := by simp; omega
    go_enter Tryd.func73, Tryd.ntmps73
    go_wp2
    go_ret
    exact ⟨rfl, Below.refl _ _⟩
  obtain ⟨j, rfl⟩ : ∃ j : Nat, g = j := ⟨g.toNat, by omega⟩
  have t1 : decide ((cn : Int) ≤ (j : Int)) = false := by simp; omega
  have t1' : decide (cn ≤ j) = false := by simp; omega
  by_cases s0 : s < 0
  · rw [stepA_s0 s0]
    clear lc lt hc ht
    have t2 : decide (s < 0) = true := by simp; omega
    go_enter Tryd.func73, Tryd.ntmps73
    go_wp2
    go_ret
    exact ⟨rfl, Below.refl _ _⟩
  have t2 : decide (s < 0) = false := by simp; omega
  by_cases s1 : (tn : Int) ≤ s
  · rw [stepA_s1 (by omega)]
    clear lc lt hc ht
    have t3 : decide ((tn : Int) ≤ s) = true := by simp; omega
    go_enter Tryd.func73, Tryd.ntmps73
    go_wp2
    go_ret
    exact ⟨rfl, Below.refl _ _⟩
  obtain ⟨k, rfl⟩ : ∃ j : Nat, s = j := ⟨s.toNat, by omega⟩
  have t3 : decide ((tn : Int) ≤ (k : Int)) = false := by simp; omega
  have t3' : decide (tn ≤ k) = false := by simp; omega
  obtain ⟨row, hrow⟩ := at_some rows k (by omega)
  obtain ⟨c, hcl⟩ := at_some cls j (by omega)
  obtain ⟨b1, o1, rfl, _, hcc1⟩ := ht.pos (by omega)
  obtain ⟨cs1, ⟨A, n, cp, rfl, hA, hd⟩, e1⟩ := hcc1 k row hrow
  have x1 := e1 0 _ rfl
  rw [Nat.mul_one, Nat.add_zero] at x1
  obtain ⟨b2, o2, rfl, _, hcc2⟩ := hc.pos (by omega)
  obtain ⟨cs2, rfl, e2⟩ := hcc2 j c hcl
  have x2 := e2 0 _ rfl
  rw [Nat.mul_one, Nat.add_zero] at x2
  rw [stepA_in hrow hcl, lt]
  have ln := hA.len
  have hd1 := hd.1
  have hd2 := hd.2
  clear hcc1 hcc2 e1 e2 hrow hcl hc ht lc lt
  have kz : (0 : Int) ≤ (k : Int) := by omega
  have kn : (k : Int) < (tn : Int) := by omega
  have jz : (0 : Int) ≤ (j : Int) := by omega
  have jn : (j : Int) < (cn : Int) := by omega
  by_cases c0 : c < 0
  · rw [if_pos (by omega)]
    clear hA ln
    have t4 : decide (c < 0) = true := by simp; omega
    go_enter Tryd.func73, Tryd.ntmps73
    go_wp2
    go_ret
    exact ⟨rfl, Below.refl _ _⟩
  have t4 : decide (c < 0) = false := by simp; omega
  by_cases c1 : (n : Int) ≤ c
  · rw [if_pos (by omega)]
    clear hA ln
    have t5 : decide ((n : Int) ≤ c) = true := by simp; omega
    go_enter Tryd.func73, Tryd.ntmps73
    go_wp2
    go_ret
    exact ⟨rfl, Below.refl _ _⟩
  obtain ⟨q, rfl⟩ : ∃ q : Nat, c = q := ⟨c.toNat, by omega⟩
  have t5 : decide ((n : Int) ≤ (q : Int)) = false := by simp; omega
  have t5' : decide (n ≤ q) = false := by simp; omega
  obtain ⟨x, hx⟩ := at_some row q (by omega)
  obtain ⟨b3, o3, rfl, _, hcc3⟩ := hA.pos (by omega)
  obtain ⟨cs3, rfl, e3⟩ := hcc3 q x hx
  have x3 := e3 0 _ rfl
  rw [Nat.mul_one, Nat.add_zero] at x3
  rw [if_neg (by omega), Int.toNat_natCast, getD_of hx]
  clear hcc3 e3 hx hA ln
  have qz : (0 : Int) ≤ (q : Int) := by omega
  have qn : (q : Int) < (n : Int) := by omega
  by_cases y0 : 0 ≤ x
  · have t6 : decide (x < 0) = false := by simp; omega
    by_cases y1 : x < (tn : Int)
    · rw [if_pos ⟨y0, y1⟩]
      have t7 : decide ((tn : Int) ≤ x) = false := by simp; omega
      go_enter Tryd.func73, Tryd.ntmps73
      go_wp2
      go_ret
      exact ⟨rfl, Below.refl _ _⟩
    · rw [if_neg (by omega)]
      have t7 : decide ((tn : Int) ≤ x) = true := by simp; omega
      go_enter Tryd.func73, Tryd.ntmps73
      go_wp2
      go_ret
      exact ⟨rfl, Below.refl _ _⟩
  · rw [if_neg (by omega)]
    have t6 : decide (x < 0) = true := by simp; omega
    go_enter Tryd.func73, Tryd.ntmps73
    go_wp2
    go_ret
    exact ⟨rfl, Below.refl _ _⟩

set_option maxRecDepth 100000 in
set_option maxHeartbeats 1000000 in
theorem dread_c (r : RV) (cls : List Int) (rows : List (List Int)) (ends : List Nat) (A : Option Addr) (n c : Nat) (gs : List Int) (w : World) (h : IsR w (lo w.heap.size) r cls rows ends) (hg : Rd w (lo w.heap.size) A n gs) (hn : n ≤ 9223372036854775807) :
    Calls Tryd.prog 48 #[.slice r.ca r.cn r.cc, .slice r.ta r.tn r.tc, .slice r.ea r.en r.ec, .slice A n c] w fun e w' => e = .returned (.int .u64 (readA cls rows ends 0 (bitsA ends 0) gs : Int)) ∧ Below w.heap.size w w' := by
  have HL := Lib.hid hg.len
  have HLT := Lib.hid (bitsA_lt (fun i x hx => h.e.lt hx))
  have HR := Lib.hid fun (W : World) (bW : Below w.heap.size w W) => And.intro (h.call bW) (hg.call bW)
  obtain ⟨res, hres⟩ : ∃ res, readA cls rows ends 0 (bitsA ends 0) gs = res := ⟨_, rfl⟩
  rw [hres]
  have HRES := Lib.hid hres
  clear hres
  have HB0 := Lib.hid (dbits_c r.ea r.en r.ec ends 0 w h.e h.he)
  clear h hg
  go_enter Tryd.func48, Tryd.ntmps48
  go_wp2_with fail
  refine HB0.out.mono ?_
  rintro e w1 ⟨rfl, hb1⟩
  clear HB0
  go_wp2
  go_loopw [9, 10, 11] (fun tv sv iv wr => ∃ (k acc : Nat) (s : Int), k ≤ n ∧ iv = .int .i64 k ∧ sv = .int .i64 s ∧ tv = .int .u64 (acc : Int) ∧ acc < 18446744073709551616 ∧ readA cls rows ends s acc (gs.drop k) = res ∧ Below w.heap.size w wr) (fun _ _ iv _ => n - (intOf iv).toNat)
  case atStart => exact ⟨0, bitsA ends 0, 0, by omega, rfl, rfl, rfl, HLT.out 0, HRES.out, hb1⟩
  case round =>
    obtain ⟨k, acc, s, hk, rfl, rfl, rfl, hacc, hrk, hbr⟩ := hrel
    have HK := Lib.hid hrk; clear hrk
    by_cases hlt : k < n
    · obtain ⟨hR, hG⟩ := HR.out wr hbr
      obtain ⟨g, hgk⟩ := at_some gs k (by have := HL.out; omega)
      obtain ⟨b, o, rfl, _, hc⟩ := hG.pos (by omega)
      obtain ⟨cs, rfl, hcc⟩ := hc k g hgk
      have x0 := hcc 0 _ rfl
      rw [Nat.mul_one, Nat.add_zero] at x0
      have hd : gs.drop k = g :: gs.drop (k + 1) := by
        obtain ⟨h1, h2⟩ := List.getElem?_eq_some_iff.1 hgk
        rw [← h2]; exact List.drop_eq_getElem_cons h1
      have HN := Lib.hid (dstep_c r.ca r.cn r.cc cls r.ta r.tn r.tc rows s g wr hR.c hR.hc hR.t hR.ht)
      have HST : Hid (readA cls rows ends s acc (gs.drop k) = if stepA cls rows s g < 0 then acc else readA cls rows ends (stepA cls rows s g) (acc ||| bitsA ends (stepA cls rows s g)) (gs.drop (k + 1))) := Lib.hid (by rw [hd, readA])
      clear hc hcc hgk hd hG
      have kz : (0 : Int) ≤ (k : Int) := by omega
      have kn : (k : Int) < (n : Int) := by omega
      generalize stepA cls rows s g = s' at *
      go_wp2_with fail
      refine HN.out.mono ?_
      rintro e w2 ⟨rfl, hb2⟩
      have hbr2 := below_call hbr hb2
      have HB2 := Lib.hid (dbits_c r.ea r.en r.ec ends s' w2 (hR.call hb2).e hR.he)
      clear HN hb2 hR x0
      by_cases hs : s' < 0
      · have t0 : decide (s' < 0) = true := by simp; omega
        go_wp2
        go_ret
        have h1 := HST.out
        rw [HK.out, if_pos (by omega)] at h1
        subst h1
        exact ⟨rfl, hbr2⟩
      · have t0 : decide (s' < 0) = false := by simp; omega
        go_wp2_with fail
        refine HB2.out.mono ?_
        rintro e w3 ⟨rfl, hb3⟩
        have hbr3 := below_call hbr2 hb3
        have hor := bits_or_u64_nat acc (bitsA ends s') hacc (HLT.out s')
        clear HB2 hb3
        go_wp2
        go_roundw
        case rel => exact ⟨k + 1, _, s', by omega, by go_num, rfl, rfl, or_lt64 hacc (HLT.out s'), by have h1 := HST.out; rw [HK.out, if_neg (by omega)] at h1; exact h1.symm, hbr3⟩
        case measure => simp [intOf]; omega
    · go_wp2
      go_ret
      have h1 := HK.out
      rw [List.drop_eq_nil_of_le (by have := HL.out; omega), readA] at h1
      subst h1
      exact ⟨rfl, hbr⟩

set_option maxRecDepth 100000 in
set_option maxHeartbeats 400000 in
theorem dFore_c (v : AV) (a : Au) (A : Option Addr) (n c : Nat) (gs : List Int) (w : World) (h : IsA w (lo w.heap.size) v a) (hg : Rd w (lo w.heap.size) A n gs) (hn : n ≤ 9223372036854775807) :
    Calls Tryd.prog 24 #[.agg v.cells, .slice A n c] w fun e w' => e = .returned (.int .u64 (foreA a gs : Int)) ∧ Below w.heap.size w w' := by
  have hb : Below w.heap.size w (w.alloc (.cells v.cells 38)) := (Below.refl _ _).alloc (Nat.le_refl _) _
  have HC := Lib.hid (dread_c v.rf a.cls a.fore a.fe A n c gs _ (h.call hb).1 (hg.call hb) hn)
  clear h hg
  unfold AV.cells at *
  unfold AV.rf at HC
  dsimp only at HC
  unfold foreA
  go_enter Tryd.func24, Tryd.ntmps24
  go_wp2_with fail
  refine HC.out.mono ?_
  rintro e w1 ⟨rfl, hb1⟩
  have hb2 := below_call hb hb1
  clear hb1 HC
  go_wp2
  go_ret
  exact ⟨rfl, hb2⟩

set_option maxRecDepth 100000 in
set_option maxHeartbeats 400000 in
theorem dBack_c (v : AV) (a : Au) (A : Option Addr) (n c : Nat) (gs : List Int) (w : World) (h : IsA w (lo w.heap.size) v a) (hg : Rd w (lo w.heap.size) A n gs) (hn : n ≤ 9223372036854775807) :
    Calls Tryd.prog 28 #[.agg v.cells, .slice A n c] w fun e w' => e = .returned (.int .u64 (backA a gs : Int)) ∧ Below w.heap.size w w' := by
  have hb : Below w.heap.size w (w.alloc (.cells v.cells 38)) := (Below.refl _ _).alloc (Nat.le_refl _) _
  have HC := Lib.hid (dread_c v.rb a.cls a.back a.be A n c gs _ (h.call hb).2 (hg.call hb) hn)
  clear h hg
  unfold AV.cells at *
  unfold AV.rb at HC
  dsimp only at HC
  unfold backA
  go_enter Tryd.func28, Tryd.ntmps28
  go_wp2_with fail
  refine HC.out.mono ?_
  rintro e w1 ⟨rfl, hb1⟩
  have hb2 := below_call hb hb1
  clear hb1 HC
  go_wp2
  go_ret
  exact ⟨rfl, hb2⟩

theorem bit_at (x k : Nat) : x / 2 ^ k % 2 = if x.testBit k then 1 else 0 := by
  rw [Nat.testBit_eq_decide_div_mod_eq]
  split <;> rename_i h <;> simp at h <;> omega
theorem firstZ_at {x k : Nat} (hk : k < 64) (h : x.testBit k = true) (hb : ∀ j < k, x.testBit j = false) : firstZ x = (k : Int) := by
  unfold firstZ leastA
  have : (List.range 64).find? (fun i => x.testBit i) = some k := by
    rw [List.find?_range_eq_some]
    exact ⟨h, by simpa using hk, fun j hj => by simpa using hb j hj⟩
  rw [this]
theorem firstZ_out {x : Nat} (hb : ∀ j < 64, x.testBit j = false) : firstZ x = -1 := by
  unfold firstZ leastA
  have : (List.range 64).find? (fun i => x.testBit i) = none := by
    rw [List.find?_eq_none]
    intro i hi
    rw [hb i (List.mem_range.1 hi)]
    simp
  rw [this]
set_option maxRecDepth 100000 in
set_option maxHeartbeats 400000 in
theorem dleast_c (x : Nat) (w : World) : Calls Tryd.prog 29 #[.int .u64 (x : Int)] w fun e w' => e = .returned (.int .i64 (firstZ x)) ∧ w' = w := by
  go_enter Tryd.func29, Tryd.ntmps29
  go_wp2
  go_loopw [3] (fun iv wr => ∃ (k : Nat), k ≤ 64 ∧ iv = .int .i64 k ∧ (∀ j < k, x.testBit j = false) ∧ wr = w) (fun iv _ => 64 - (intOf iv).toNat)
  case atStart => exact ⟨0, by omega, rfl, fun j hj => absurd hj (by omega), rfl⟩
  case round =>
    obtain ⟨k, hk, rfl, hb, rfl⟩ := hrel
    have HB := Lib.hid hb; clear hb
    by_cases hlt : k < 64
    · have kz : (0 : Int) ≤ (k : Int) := by omega
      have kn : (k : Int) < 64 := by omega
      have kn' : (k : Int) ≤ 64 := by omega
      have km : (k : Int) % 18446744073709551616 = (k : Int) := by omega
      cases hx : x.testBit k with
      | true =>
        have h1 : (((x : Int) / 2 ^ k).tmod 2 == 1) = true := by
          have := bit_at x k
          rw [hx, if_pos rfl] at this
          rw [Int.tmod_eq_emod_of_nonneg (Int.ediv_nonneg (by omega) (Int.le_of_lt (Int.pow_pos (by omega))))]
          have h2 : (x : Int) / 2 ^ k % 2 = 1 := by exact_mod_cast this
          rw [h2]; rfl
        have HX := Lib.hid hx; clear hx
        go_wp2
        go_ret
        exact ⟨by rw [firstZ_at hlt HX.out HB.out]; rfl, rfl⟩
      | false =>
        have h1 : (((x : Int) / 2 ^ k).tmod 2 == 1) = false := by
          have := bit_at x k
          rw [hx, if_neg (by simp)] at this
          rw [Int.tmod_eq_emod_of_nonneg (Int.ediv_nonneg (by omega) (Int.le_of_lt (Int.pow_pos (by omega))))]
          have h2 : (x : Int) / 2 ^ k % 2 = 0 := by exact_mod_cast this
          rw [h2]; rfl
        have HX := Lib.hid hx; clear hx
        go_wp2
        go_roundw
        case rel => exact ⟨k + 1, by omega, by go_num, fun j hj => by rcases Nat.lt_or_ge j k with h | h; exact HB.out j h; obtain rfl : j = k := by omega
                                                                      exact HX.out, trivial⟩
        case measure => first | omega | (simp [intOf]; omega)
    · obtain rfl : k = 64 := by omega
      go_wp2
      go_ret
      exact ⟨by rw [firstZ_out HB.out]; rfl, rfl⟩

end Go.Proofs.YtgcmedkaadagmaaDoor
