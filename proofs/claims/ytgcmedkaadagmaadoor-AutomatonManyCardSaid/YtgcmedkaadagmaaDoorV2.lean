/- Walks: a reader's read; Fore and Back. -/
import Derived.Test.YtgcmedkaadagmaaDoorV1
namespace Go.Proofs.YtgcmedkaadagmaaDoor
open Go.RowKit

theorem RdU.lt {w : World} {S : Nat → Prop} {A : Option Addr} {n : Nat} {xs : List Nat} (h : RdU w S A n xs) {i x : Nat} (hx : xs[i]? = some x) : x < 18446744073709551616 := by
  obtain ⟨b, o, _, _, hc⟩ := h.pos (by have := h.len; have := (List.getElem?_eq_some_iff.1 hx).1; omega)
  obtain ⟨cs, ⟨_, h2⟩, _⟩ := hc i x hx
  exact h2
theorem bitsA_lt {ends : List Nat} (h : ∀ (i x : Nat), ends[i]? = some x → x < 18446744073709551616) (s : Int) : bitsA ends s < 18446744073709551616 := by
  unfold bitsA
  split
  · omega
  · cases hx : ends[s.toNat]? with
    | none => simp
    | some x => exact h _ _ hx
theorem or_lt64 {a b : Nat} (ha : a < 18446744073709551616) (hb : b < 18446744073709551616) : a ||| b < 18446744073709551616 := Nat.or_lt_two_pow (n := 64) ha hb
theorem box_cells {w : World} {cs : Array Value} {t : TypeId} {g : Nat} (h : Bk w g t cs) (i : Nat) {v : Value} (hv : cs[i]? = some v) : w.cell? ⟨g, i, none⟩ = some v := (h.cell i).trans hv

set_option maxRecDepth 100000 in
set_option maxHeartbeats 1000000 in
theorem read_c (r : RV) (cls : List Int) (rows : List (List Int)) (ends : List Nat) (A : Option Addr) (n c : Nat) (gs : List Int) (w : World) (h : IsR w (lo w.heap.size) r cls rows ends) (hg : Rd w (lo w.heap.size) A n gs) (hn : n ≤ 9223372036854775807) :
    Calls Tryd.prog 46 #[.agg r.cells, .slice A n c] w fun e w' => e = .returned (.int .u64 (readA cls rows ends 0 (bitsA ends 0) gs : Int)) ∧ Below w.heap.size w w' := by
  have HL := Lib.hid hg.len
  have HLT := Lib.hid (bitsA_lt (fun i x hx => h.e.lt hx))
  obtain ⟨ob, hob⟩ : ∃ ob : Obj, ob = .cells r.cells 98 := ⟨_, rfl⟩
  have hb0 : Below w.heap.size w (w.alloc ob) := (Below.refl _ _).alloc (Nat.le_refl _) _
  have hk0 : Bk (w.alloc ob) w.heap.size 98 r.cells := by rw [hob]; exact Bk.new w 98 r.cells
  have HR := Lib.hid fun (W : World) (bW : Below w.heap.size w W) => And.intro (h.call bW) (hg.call bW)
  obtain ⟨res, hres⟩ : ∃ res, readA cls rows ends 0 (bitsA ends 0) gs = res := ⟨_, rfl⟩
  rw [hres]
  have HRES := Lib.hid hres
  clear hres
  have HB0 := Lib.hid (bits_c r cls rows ends 0 (w.alloc ob) (h.call hb0))
  have c0 : (w.alloc ob).cell? ⟨w.heap.size, 0, none⟩ = some (.slice r.ca r.cn r.cc) := hk0.cell 0
  have c1 : (w.alloc ob).cell? ⟨w.heap.size, 1, none⟩ = some (.slice r.ta r.tn r.tc) := hk0.cell 1
  have c2 : (w.alloc ob).cell? ⟨w.heap.size, 2, none⟩ = some (.slice r.ea r.en r.ec) := hk0.cell 2
  clear h hg
  unfold RV.cells at *
  subst hob
  go_enter Tryd.func46, Tryd.ntmps46
  go_wp2_with fail
  refine HB0.out.mono ?_
  rintro e w1 ⟨rfl, hb1⟩
  have HLE := Lib.hid hb1.size
  have hb1' := below_call hb0 hb1
  have hk1 := hk0.below hb1 hk0.lt
  clear hb1 hk0 c0 c1 c2 HB0 hb0
  go_wp2
  go_loopw [5, 6, 14] (fun sv tv iv wr => ∃ (k acc : Nat) (s : Int), k ≤ n ∧ iv = .int .i64 k ∧ sv = .int .i64 s ∧ tv = .int .u64 (acc : Int) ∧ acc < 18446744073709551616 ∧ readA cls rows ends s acc (gs.drop k) = res ∧ Bk wr w.heap.size 98 #[.slice r.ca r.cn r.cc, .slice r.ta r.tn r.tc, .slice r.ea r.en r.ec] ∧ Below w.heap.size w wr) (fun _ _ iv _ => n - (intOf iv).toNat)
  case atStart => exact ⟨0, bitsA ends 0, 0, by omega, rfl, rfl, rfl, HLT.out 0, HRES.out, hk1, hb1'⟩
  case round =>
    obtain ⟨k, acc, s, hk, rfl, rfl, rfl, hacc, hrk, hkr, hbr⟩ := hrel
    have HK := Lib.hid hrk; clear hrk
    have c0 : wr.cell? ⟨w.heap.size, 0, none⟩ = some (.slice r.ca r.cn r.cc) := hkr.cell 0
    have c1 : wr.cell? ⟨w.heap.size, 1, none⟩ = some (.slice r.ta r.tn r.tc) := hkr.cell 1
    have c2 : wr.cell? ⟨w.heap.size, 2, none⟩ = some (.slice r.ea r.en r.ec) := hkr.cell 2
    by_cases hlt : k < n
    · obtain ⟨hR, hG⟩ := HR.out wr hbr
      obtain ⟨g, hgk⟩ := at_some gs k (by have := HL.out; omega)
      obtain ⟨b, o, rfl, _, hc⟩ := hG.pos (by omega)
      obtain ⟨cs, rfl, hcc⟩ := hc k g hgk
      have x0 := hcc 0 _ rfl
      rw [Nat.mul_one, Nat.add_zero] at x0
      have hd : gs.drop k = g :: gs.drop (k + 1) := by
        obtain ⟨h1, h2⟩ := List.getElem?_eq_some_iff.1 hgk
        rw [← h2]; exact List.drop_eq_getElem_cons h1
      have HN := Lib.hid (next_c r cls rows ends s g wr hR)
      have HST : Hid (readA cls rows ends s acc (gs.drop k) = if stepA cls rows s g < 0 then acc else readA cls rows ends (stepA cls rows s g) (acc ||| bitsA ends (stepA cls rows s g)) (gs.drop (k + 1))) := Lib.hid (by rw [hd, readA])
      have HNG := Lib.hid fun (h : stepA cls rows s g < 0) => stepA_neg h
      clear hc hcc hgk hd hG
      have kz : (0 : Int) ≤ (k : Int) := by omega
      have kn : (k : Int) < (n : Int) := by omega
      generalize stepA cls rows s g = s' at *
      go_wp2_with fail
      refine HN.out.mono ?_
      rintro e w2 ⟨rfl, hb2⟩
      have hkr2 := hkr.below hb2 hkr.lt
      have d0 : w2.cell? ⟨w.heap.size, 0, none⟩ = some (.slice r.ca r.cn r.cc) := hkr2.cell 0
      have d1 : w2.cell? ⟨w.heap.size, 1, none⟩ = some (.slice r.ta r.tn r.tc) := hkr2.cell 1
      have d2 : w2.cell? ⟨w.heap.size, 2, none⟩ = some (.slice r.ea r.en r.ec) := hkr2.cell 2
      have hbr2 := below_call hbr hb2
      have HB2 := Lib.hid (bits_c r cls rows ends s' w2 (hR.call hb2))
      clear HN hb2 c0 c1 c2 hkr hR x0
      by_cases hs : s' = -1
      · subst hs
        go_wp2
        go_ret
        have h1 := HST.out
        rw [HK.out, if_pos (by omega)] at h1
        subst h1
        exact ⟨rfl, hbr2⟩
      · have hsb : (s' == -1) = false := by simpa using hs
        have hnn : ¬ s' < 0 := fun h => hs (HNG.out h)
        clear hs
        go_wp2_with fail
        refine HB2.out.mono ?_
        rintro e w3 ⟨rfl, hb3⟩
        have hkr3 := hkr2.below hb3 hkr2.lt
        have hbr3 := below_call hbr2 hb3
        have hor := bits_or_u64_nat acc (bitsA ends s') hacc (HLT.out s')
        clear HB2 hb3 d0 d1 d2 hkr2
        go_wp2
        go_roundw
        case rel => exact ⟨k + 1, _, s', by omega, by go_num, rfl, rfl, or_lt64 hacc (HLT.out s'), by have h1 := HST.out; rw [HK.out, if_neg (by omega)] at h1; exact h1.symm, hkr3, hbr3⟩
        case measure => simp [intOf]; omega
    · go_wp2
      go_ret
      have h1 := HK.out
      rw [List.drop_eq_nil_of_le (by have := HL.out; omega), readA] at h1
      subst h1
      exact ⟨rfl, hbr⟩

end Go.Proofs.YtgcmedkaadagmaaDoor
