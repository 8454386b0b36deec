/- Walks: what is too big to be looked at. -/
import Derived.Test.YtbjcbcdccekbkaaGreatA14
namespace Go.Proofs.YtbjcbcdccekbkaaGreat
open Go.RowKit Go.Shelf

def wideB (l : List (List Int)) : Bool := l.any fun s => decide (60 < s.length)
def bigR (r : Rul) : Bool := decide (8 < r.inn.length) || (decide (8 < r.ahead.length) || (decide (8 < r.back.length) || (decide (8 < r.out.length) || (decide (4 < r.calls.length) || (wideB r.inn || (wideB r.ahead || wideB r.back))))))
def bigLk (l : Lk) : Bool := decide (12 < l.rules.length) || l.rules.any bigR
def big11 (F : Fnt) (run : List Itm) : Bool := decide (300 < run.length) || (decide (40 < F.lks.length) || F.lks.any bigLk)
def bigG (g : Gly) : Bool := decide (40 < g.anc.length)
def big14 (F : Fnt) (run : List Itm) : Bool := decide (400 < F.gly.length) || (F.gly.any bigG || (decide (100 < run.length) || big11 F run))
theorem any_next {α : Type} {xs : List α} {p : α → Bool} {i : Nat} {x : α} (h : xs[i]? = some x) (h1 : (xs.take i).any p = false) (h2 : p x = false) : (xs.take (i + 1)).any p = false := by
  rw [List.take_add_one, h]; simp [h1, h2]
theorem any_hit {α : Type} {xs : List α} {p : α → Bool} {i : Nat} {x : α} (h : xs[i]? = some x) (h2 : p x = true) : xs.any p = true := List.any_eq_true.2 ⟨x, List.mem_of_getElem? h, h2⟩
theorem any_all {α : Type} {xs : List α} {p : α → Bool} {n : Nat} (hl : xs.length ≤ n) (h : (xs.take n).any p = false) : xs.any p = false := by rw [List.take_of_length_le hl] at h; exact h

set_option maxRecDepth 100000 in
set_option maxHeartbeats 400000 in
theorem wide_c (A : Option Addr) (n c : Nat) (sets : List (List Int)) (w : World) (h : RdV w (lo w.heap.size) A n sets) (hn : n ≤ 9223372036854775807) :
    Calls Tryz.prog 25 #[.slice A n c] w fun e w' => e = .returned (.bool (wideB sets)) ∧ w = w' := by
  have HL := Lib.hid h.len
  go_enter Tryz.func25, Tryz.ntmps25
  go_wp2
  go_loop [3] (fun i => ∃ k : Nat, k ≤ n ∧ i = .int .i64 k ∧ (sets.take k).any (fun s => decide (60 < s.length)) = false) (fun i => n - (intOf i).toNat)
  case atStart => exact ⟨0, by omega, rfl, by simp⟩
  case round =>
    obtain ⟨k, hk, rfl, hno⟩ := hrel
    have HNO := Lib.hid hno; clear hno
    by_cases hlt : k < n
    · obtain ⟨b, o, rfl, _, hc⟩ := h.pos (by omega)
      obtain ⟨x, hx⟩ := at_some sets k (by have := HL.out; omega)
      obtain ⟨cs, ⟨A1, n1, c1, rfl, hA1, hd1⟩, hcc⟩ := hc k x hx
      have c0 := hcc 0 _ rfl
      rw [Nat.mul_one, Nat.add_zero] at c0
      have HX := Lib.hid hx; have HL1 := Lib.hid hA1.len
      have hkz : (0 : Int) ≤ (k : Int) := by omega
      have hkn : (k : Int) < (n : Int) := by omega
      have hn1 : n1 ≤ 9223372036854775807 := Nat.le_trans hd1.1 hd1.2
      clear hx hc hcc
      by_cases hb : 60 < n1
      · have t1 : decide ((60 : Int) < (n1 : Int)) = true := by simp; omega
        have t2 : decide (60 < n1) = true := by simp; omega
        have hr : wideB sets = true := any_hit HX.out (by rw [HL1.out]; exact t2)
        have HR := Lib.hid hr; clear hr
        go_wp2
        go_ret
        exact ⟨ret_bool HR.out.symm, rfl⟩
      · have t1 : decide ((60 : Int) < (n1 : Int)) = false := by simp; omega
        have t2 : decide (60 < n1) = false := by simp; omega
        have hr := any_next (p := fun s => decide (60 < s.length)) HX.out HNO.out (by rw [HL1.out]; exact t2)
        have HR := Lib.hid hr; clear hr
        go_wp2
        go_round
        case rel => exact ⟨k + 1, by omega, by go_num, HR.out⟩
        case measure => simp [intOf]; omega
    · have hr : wideB sets = false := any_all (n := k) (by have := HL.out; omega) HNO.out
      have HR := Lib.hid hr; clear hr
      go_wp2
      go_ret
      exact ⟨ret_bool HR.out.symm, rfl⟩

def BgP (b : Bool) (w : World) (e : Ending) (w' : World) : Prop := e = .returned (.bool b) ∧ Below w.heap.size w w'
set_option maxRecDepth 100000 in
set_option maxHeartbeats 4000000 in
theorem big11_c (f : FV) (F : Fnt) (RA : Option Addr) (rn rc : Nat) (run : List Itm) (w : World) (hf : IsF w (lo w.heap.size) f F) (hI : RdI w (lo w.heap.size) RA rn run) (hrn : rn ≤ 9223372036854775807) :
    Calls Tryz.prog 9 #[.agg f.cells, .slice RA rn rc] w (BgP (big11 F run) w) := by
  have HRL := Lib.hid hI.len
  have hln := hf.2.1.len
  have HLN := Lib.hid hln
  have hld := hf.2.2.2
  have hlnM : f.ln ≤ 9223372036854775807 := Nat.le_trans hld.1 hld.2
  obtain ⟨R, hR⟩ : ∃ R, R = big11 F run := ⟨_, rfl⟩
  rw [← hR]
  have HR := Lib.hid hR
  clear hln hR hI
  unfold FV.cells
  by_cases h300 : 300 < rn
  · have t1 : decide ((300 : Int) < (rn : Int)) = true := by simp; omega
    have hr : R = true := by rw [HR.out]; unfold big11; rw [show decide (300 < run.length) = true by simp [HRL.out]; omega]; rfl
    subst hr
    clear HR
    go_enter Tryz.func9, Tryz.ntmps9
    go_wp2
    go_ret
    exact ⟨rfl, (Below.refl _ _).alloc (Nat.le_refl _) _⟩
  · have t1 : decide ((300 : Int) < (rn : Int)) = false := by simp; omega
    by_cases h40 : 40 < f.ln
    · have t2 : decide ((40 : Int) < (f.ln : Int)) = true := by simp; omega
      have hr : R = true := by rw [HR.out]; unfold big11; rw [show decide (40 < F.lks.length) = true by simp [HLN.out]; omega]; simp
      subst hr
      clear HR
      go_enter Tryz.func9, Tryz.ntmps9
      go_wp2
      go_ret
      exact ⟨rfl, (Below.refl _ _).alloc (Nat.le_refl _) _⟩
    · have t2 : decide ((40 : Int) < (f.ln : Int)) = false := by simp; omega
      have t2' : decide (40 < f.ln) = false := by simp; omega
      have hr : R = F.lks.any bigLk := by rw [HR.out]; unfold big11; rw [show decide (40 < F.lks.length) = false by simp [HLN.out]; omega, show decide (300 < run.length) = false by simp [HRL.out]; omega]; rfl
      have HR2 := Lib.hid hr
      clear hr HR
      go_enter Tryz.func9, Tryz.ntmps9
      go_wp2
      generalize hW0 : w.alloc (.cells #[.int .i64 f.u0, .slice f.ga f.gn f.gc, .slice f.ca f.cn f.cc, .slice f.la f.ln f.lc, .slice f.a4 f.n4 f.c4, .slice f.a5 f.n5 f.c5, .slice f.a6 f.n6 f.c6, .slice f.a7 f.n7 f.c7, .slice f.a8 f.n8 f.c8] 31) = W0
      have kf : Bk W0 w.heap.size 31 f.cells := by rw [← hW0]; exact Bk.new _ _ _
      have bw : Below w.heap.size w W0 := by rw [← hW0]; exact (Below.refl _ _).alloc (Nat.le_refl _) _
      have hf0 := hf.call bw
      clear hW0 hf
      go_loopw [5] (fun i wr => ∃ k : Nat, k ≤ f.ln ∧ i = .int .i64 k ∧ (F.lks.take k).any bigLk = false ∧ Below W0.heap.size W0 wr) (fun i _ => f.ln - (intOf i).toNat)
      case atStart => exact ⟨0, by omega, rfl, by simp, Below.refl _ _⟩
      case round =>
        obtain ⟨k, hk, rfl, hno, hbr⟩ := hrel
        have HNO := Lib.hid hno; clear hno
        have kfr := kf.call hbr
        have y3 : wr.cell? ⟨w.heap.size, 3, none⟩ = some (.slice f.la f.ln f.lc) := by have := kfr.cell 3; simpa using this
        by_cases hlt : k < f.ln
        · obtain ⟨b, o, hla2, hb0, hc⟩ := (hf0.call hbr).2.1.pos (by omega)
          obtain ⟨lk, hlk⟩ := at_some F.lks k (by have := HLN.out; omega)
          obtain ⟨cs, ⟨A, n, c, rfl, hRR, hd⟩, hcc⟩ := hc k lk hlk
          have g0 := hcc 0 _ rfl
          have g1 := hcc 1 _ rfl
          have g2 := hcc 2 _ rfl
          rw [Nat.add_zero] at g0
          rw [hla2] at y3
          have hnM : n ≤ 9223372036854775807 := Nat.le_trans hd.1 hd.2
          have kz : (0 : Int) ≤ (k : Int) := by omega
          have kn : (k : Int) < (f.ln : Int) := by omega
          have HLK := Lib.hid hlk; have HN := Lib.hid hRR.len
          clear hla2 hlk hc hcc
          by_cases h12 : 12 < n
          · have t3 : decide ((12 : Int) < (n : Int)) = true := by simp; omega
            have hr : R = true := by rw [HR2.out]; exact any_hit HLK.out (by unfold bigLk; rw [show decide (12 < lk.rules.length) = true by simp [HN.out]; omega]; rfl)
            have HRT := Lib.hid hr
            clear hr
            go_wp2
            go_ret
            exact ⟨ret_bool HRT.out.symm, (bw.trans (hbr.mono bw.size)).alloc (by have := hbr.size; have := bw.size; omega) _⟩
          · have t3 : decide ((12 : Int) < (n : Int)) = false := by simp; omega
            have t3' : decide (12 < n) = false := by simp; omega
            have hb12 : bigLk lk = lk.rules.any bigR := by unfold bigLk; rw [show decide (12 < lk.rules.length) = false by simp [HN.out]; omega]; rfl
            have HB12 := Lib.hid hb12
            clear hb12
            go_wp2
            generalize hW1 : wr.alloc (.cells #[.int .i64 lk.kind, .bool lk.ign, .slice A n c] 51) = W1
            have kl : Bk W1 wr.heap.size 51 #[.int .i64 lk.kind, .bool lk.ign, .slice A n c] := by rw [← hW1]; exact Bk.new _ _ _
            have b1 : Below wr.heap.size wr W1 := by rw [← hW1]; exact (Below.refl _ _).alloc (Nat.le_refl _) _
            have hR1 := hRR.call b1
            generalize hbl : wr.heap.size = bl at kl
            clear hW1 g0 g1 g2 y3 hRR
            go_loopw [7] (fun i ws => ∃ q : Nat, q ≤ n ∧ i = .int .i64 q ∧ (lk.rules.take q).any bigR = false ∧ Below W1.heap.size W1 ws) (fun i _ => n - (intOf i).toNat)
            case atStart => exact ⟨0, by omega, rfl, by simp, Below.refl _ _⟩
            case round =>
              obtain ⟨q, hq, rfl, hnq, hbs⟩ := hrel
              have HNQ := Lib.hid hnq; clear hnq
              have kls := kl.call hbs
              have z2 : wr.cell? ⟨bl, 2, none⟩ = some (.slice A n c) := by have := kls.cell 2; simpa using this
              by_cases hlq : q < n
              · obtain ⟨b2, o2, hA2, hb2, hc2⟩ := (hR1.call hbs).pos (by omega)
                obtain ⟨r, hrl⟩ := at_some lk.rules q (by have := HN.out; omega)
                obtain ⟨cs, ⟨A1, n1, c1, A2, n2, c2, A3, n3, c3, A4, n4, c4, A5, n5, c5, rfl, q1, q2, q3, q4, q5, d1, d2, d3, d4, d5⟩, hcc⟩ := hc2 q r hrl
                have x0 := hcc 0 _ rfl
                have x1 := hcc 1 _ rfl
                have x2 := hcc 2 _ rfl
                have x3 := hcc 3 _ rfl
                have x4 := hcc 4 _ rfl
                have x5 := hcc 5 _ rfl
                rw [Nat.add_zero] at x0
                rw [hA2] at z2
                have qz : (0 : Int) ≤ (q : Int) := by omega
                have qn : (q : Int) < (n : Int) := by omega
                have n1M : n1 ≤ 9223372036854775807 := Nat.le_trans d1.1 d1.2
                have n2M : n2 ≤ 9223372036854775807 := Nat.le_trans d2.1 d2.2
                have n3M : n3 ≤ 9223372036854775807 := Nat.le_trans d3.1 d3.2
                have n4M : n4 ≤ 9223372036854775807 := Nat.le_trans d4.1 d4.2
                have n5M : n5 ≤ 9223372036854775807 := Nat.le_trans d5.1 d5.2
                have L1 := Lib.hid q1.len
                have L2 := Lib.hid q2.len
                have L3 := Lib.hid q3.len
                have L4 := Lib.hid q4.len
                have L5 := Lib.hid q5.len
                have HRUL := Lib.hid hrl
                have HTRUE := Lib.hid fun (hb : bigR r = true) => (show R = true by rw [HR2.out]; exact any_hit HLK.out (by rw [HB12.out]; exact any_hit HRUL.out hb))
                have bws : Below wr.heap.size wr (wr.alloc (.cells #[.slice A1 n1 c1, .slice A2 n2 c2, .slice A3 n3 c3, .slice A4 n4 c4, .slice A5 n5 c5, .int .i64 r.x] 66)) := (Below.refl _ _).alloc (Nat.le_refl _) _
                have bend : Below w.heap.size w (wr.alloc (.cells #[.slice A1 n1 c1, .slice A2 n2 c2, .slice A3 n3 c3, .slice A4 n4 c4, .slice A5 n5 c5, .int .i64 r.x] 66)) := below_call (below_call (below_call (below_call bw hbr) b1) hbs) bws
                have HBE := Lib.hid bend; have HBW := Lib.hid bws
                have HW2 := Lib.hid (wide_c A2 n2 c2 r.inn _ (q2.call bws) (by omega))
                have HW3 := Lib.hid (wide_c A3 n3 c3 r.ahead _ (q3.call bws) (by omega))
                have HW1 := Lib.hid (wide_c A1 n1 c1 r.back _ (q1.call bws) (by omega))
                clear hA2 hrl hc2 hcc q1 q2 q3 q4 q5 d1 d2 d3 d4 d5 bend bws
                by_cases h0 : 8 < n2
                · have u0 : decide ((8 : Int) < (n2 : Int)) = true := by simp; omega
                  have HT := Lib.hid (HTRUE.out (by unfold bigR; rw [L2.out]; simp [h0]))
                  go_wp2
                  go_ret
                  exact ⟨ret_bool HT.out.symm, HBE.out⟩
                · have u0 : decide ((8 : Int) < (n2 : Int)) = false := by simp; omega
                  have v0 : decide (8 < n2) = false := by simp; omega
                  by_cases h1 : 8 < n3
                  · have u1 : decide ((8 : Int) < (n3 : Int)) = true := by simp; omega
                    have HT := Lib.hid (HTRUE.out (by unfold bigR; rw [L3.out]; simp [h1]))
                    go_wp2
                    go_ret
                    exact ⟨ret_bool HT.out.symm, HBE.out⟩
                  · have u1 : decide ((8 : Int) < (n3 : Int)) = false := by simp; omega
                    have v1 : decide (8 < n3) = false := by simp; omega
                    by_cases h2 : 8 < n1
                    · have u2 : decide ((8 : Int) < (n1 : Int)) = true := by simp; omega
                      have HT := Lib.hid (HTRUE.out (by unfold bigR; rw [L1.out]; simp [h2]))
                      go_wp2
                      go_ret
                      exact ⟨ret_bool HT.out.symm, HBE.out⟩
                    · have u2 : decide ((8 : Int) < (n1 : Int)) = false := by simp; omega
                      have v2 : decide (8 < n1) = false := by simp; omega
                      by_cases h3 : 8 < n4
                      · have u3 : decide ((8 : Int) < (n4 : Int)) = true := by simp; omega
                        have HT := Lib.hid (HTRUE.out (by unfold bigR; rw [L4.out]; simp [h3]))
                        go_wp2
                        go_ret
                        exact ⟨ret_bool HT.out.symm, HBE.out⟩
                      · have u3 : decide ((8 : Int) < (n4 : Int)) = false := by simp; omega
                        have v3 : decide (8 < n4) = false := by simp; omega
                        by_cases h4 : 4 < n5
                        · have u4 : decide ((4 : Int) < (n5 : Int)) = true := by simp; omega
                          have HT := Lib.hid (HTRUE.out (by unfold bigR; rw [L5.out]; simp [h4]))
                          go_wp2
                          go_ret
                          exact ⟨ret_bool HT.out.symm, HBE.out⟩
                        · have u4 : decide ((4 : Int) < (n5 : Int)) = false := by simp; omega
                          have v4 : decide (4 < n5) = false := by simp; omega
                          go_wp2_with fail
                          refine HW2.out.mono ?_
                          rintro e w5 ⟨rfl, rfl⟩
                          cases hw5 : wideB r.inn with
                          | true =>
                            have HT := Lib.hid (HTRUE.out (by unfold bigR; rw [hw5]; simp))
                            go_wp2
                            go_ret
                            exact ⟨ret_bool HT.out.symm, HBE.out⟩
                          | false =>
                            go_wp2_with fail
                            refine HW3.out.mono ?_
                            rintro e w5 ⟨rfl, rfl⟩
                            cases hw6 : wideB r.ahead with
                            | true =>
                              have HT := Lib.hid (HTRUE.out (by unfold bigR; rw [hw6]; simp))
                              go_wp2
                              go_ret
                              exact ⟨ret_bool HT.out.symm, HBE.out⟩
                            | false =>
                              go_wp2_with fail
                              refine HW1.out.mono ?_
                              rintro e w5 ⟨rfl, rfl⟩
                              cases hw7 : wideB r.back with
                              | true =>
                                have HT := Lib.hid (HTRUE.out (by unfold bigR; rw [hw7]; simp))
                                go_wp2
                                go_ret
                                exact ⟨ret_bool HT.out.symm, HBE.out⟩
                              | false =>
                                have hb : bigR r = false := by unfold bigR; rw [L1.out, L2.out, L3.out, L4.out, L5.out, v0, v1, v2, v3, v4, hw5, hw6, hw7]; rfl
                                have hr := any_next HRUL.out HNQ.out hb
                                have HNX := Lib.hid hr
                                clear hr hb
                                go_wp2
                                go_roundw
                                case rel =>
                                  exact ⟨q + 1, by omega, by go_num, HNX.out, below_call hbs HBW.out⟩
                                case measure => simp [intOf]; omega
              · have hr2 : bigLk lk = false := by rw [HB12.out]; exact any_all (n := q) (by have := HN.out; omega) HNQ.out
                have hr := any_next HLK.out HNO.out hr2
                have HNX := Lib.hid hr
                have t4 : decide ((q : Int) < (n : Int)) = false := by simp; omega
                clear hr hr2
                go_wp2
                go_roundw
                case rel => exact ⟨k + 1, by omega, by go_num, HNX.out, below_call hbr (below_call b1 hbs)⟩
                case measure => simp [intOf]; omega
        · have hr : R = false := by rw [HR2.out]; exact any_all (n := k) (by have := HLN.out; omega) HNO.out
          have HRF := Lib.hid hr
          have t4 : decide ((k : Int) < (f.ln : Int)) = false := by simp; omega
          clear hr
          go_wp2
          go_ret
          exact ⟨ret_bool HRF.out.symm, below_call bw hbr⟩

set_option maxRecDepth 100000 in
set_option maxHeartbeats 4000000 in
theorem big14_c (f : FV) (F : Fnt) (RA : Option Addr) (rn rc : Nat) (run : List Itm) (w : World) (hf : IsF w (lo w.heap.size) f F) (hI : RdI w (lo w.heap.size) RA rn run) (hrn : rn ≤ 9223372036854775807) :
    Calls Tryz.prog 4 #[.agg f.cells, .slice RA rn rc] w (BgP (big14 F run) w) := by
  have HRL := Lib.hid hI.len
  have HGN := Lib.hid hf.1.len
  have hgd := hf.2.2.1
  have hgnM : f.gn ≤ 9223372036854775807 := Nat.le_trans hgd.1 hgd.2
  obtain ⟨R, hR⟩ : ∃ R, R = big14 F run := ⟨_, rfl⟩
  rw [← hR]
  have HR := Lib.hid hR
  clear hR
  unfold FV.cells
  by_cases h400 : 400 < f.gn
  · have t1 : decide ((f.gn : Int) ≤ 400) = false := by simp; omega
    have t1' : decide (f.gn ≤ 400) = false := by simp; omega
    have t2 : decide ((400 : Int) < (f.gn : Int)) = true := by simp; omega
    have gz : (0 : Int) < (f.gn : Int) := by omega
    have hr : R = true := by rw [HR.out]; unfold big14; rw [show decide (400 < F.gly.length) = true by simp [HGN.out]; omega]; rfl
    have HT := Lib.hid hr
    clear HR hr
    go_enter Tryz.func4, Tryz.ntmps4
    go_wp2
    go_loopw [5] (fun i wr => i = .int .i64 0 ∧ wr = w.alloc (.cells #[.int .i64 f.u0, .slice f.ga f.gn f.gc, .slice f.ca f.cn f.cc, .slice f.la f.ln f.lc, .slice f.a4 f.n4 f.c4, .slice f.a5 f.n5 f.c5, .slice f.a6 f.n6 f.c6, .slice f.a7 f.n7 f.c7, .slice f.a8 f.n8 f.c8] 31)) (fun i _ => 0)
    case atStart => exact ⟨rfl, rfl⟩
    case round =>
      obtain ⟨rfl, rfl⟩ := hrel
      go_wp2
      go_ret
      exact ⟨ret_bool HT.out.symm, (Below.refl _ _).alloc (Nat.le_refl _) _⟩
  · have t1 : decide ((f.gn : Int) ≤ 400) = true := by simp; omega
    have t1' : decide (f.gn ≤ 400) = true := by simp; omega
    have t2 : decide ((400 : Int) < (f.gn : Int)) = false := by simp; omega
    have hr : R = (F.gly.any bigG || (decide (100 < run.length) || big11 F run)) := by rw [HR.out]; unfold big14; rw [show decide (400 < F.gly.length) = false by simp [HGN.out]; omega]; rfl
    have HR2 := Lib.hid hr
    clear hr HR
    go_enter Tryz.func4, Tryz.ntmps4
    go_wp2
    generalize hW0 : w.alloc (.cells #[.int .i64 f.u0, .slice f.ga f.gn f.gc, .slice f.ca f.cn f.cc, .slice f.la f.ln f.lc, .slice f.a4 f.n4 f.c4, .slice f.a5 f.n5 f.c5, .slice f.a6 f.n6 f.c6, .slice f.a7 f.n7 f.c7, .slice f.a8 f.n8 f.c8] 31) = W0
    have kf : Bk W0 w.heap.size 31 f.cells := by rw [← hW0]; exact Bk.new _ _ _
    have bw : Below w.heap.size w W0 := by rw [← hW0]; exact (Below.refl _ _).alloc (Nat.le_refl _) _
    have hf0 := hf.call bw
    have hI0 := hI.call bw
    clear hW0 hf hI
    obtain ⟨y0, y1, y2, y3, y4, y5, y6, y7, y8⟩ := font_cells kf
    have HB := Lib.hid (big11_c f F RA rn rc run W0 hf0 hI0 hrn)
    unfold FV.cells at HB
    go_loopw [5] (fun i wr => ∃ k : Nat, k ≤ f.gn ∧ i = .int .i64 k ∧ (F.gly.take k).any bigG = false ∧ wr = W0) (fun i _ => f.gn - (intOf i).toNat)
    case atStart => exact ⟨0, by omega, rfl, by simp, rfl⟩
    case round =>
      obtain ⟨k, hk, rfl, hno, rfl⟩ := hrel
      have HNO := Lib.hid hno; clear hno
      by_cases hlt : k < f.gn
      · obtain ⟨b, o, hga, hb0, hc⟩ := hf0.1.pos (by omega)
        obtain ⟨g, hg⟩ := at_some F.gly k (by have := HGN.out; omega)
        obtain ⟨cs, ⟨u0, u1, u3, u4, u5, A, n, c', u7, u8, rfl, hA, hdA⟩, hcc⟩ := hc k g hg
        have c6 := hcc 6 _ rfl
        rw [hga] at y1
        have hnM : n ≤ 9223372036854775807 := Nat.le_trans hdA.1 hdA.2
        have kz : (0 : Int) ≤ (k : Int) := by omega
        have kn : (k : Int) < (f.gn : Int) := by omega
        have HG := Lib.hid hg; have HA := Lib.hid hA.len
        clear hga hg hc hcc HB
        by_cases h40 : 40 < n
        · have t3 : decide ((40 : Int) < (n : Int)) = true := by simp; omega
          have hr : R = true := by rw [HR2.out, any_hit (p := bigG) HG.out (by unfold bigG; rw [HA.out]; simpa using h40)]; rfl
          have HT := Lib.hid hr
          clear hr
          go_wp2
          go_ret
          exact ⟨ret_bool HT.out.symm, bw⟩
        · have t3 : decide ((40 : Int) < (n : Int)) = false := by simp; omega
          have t3' : decide (40 < n) = false := by simp; omega
          have hr := any_next (p := bigG) HG.out HNO.out (by unfold bigG; rw [HA.out]; exact t3')
          have HNX := Lib.hid hr
          clear hr
          go_wp2
          go_roundw
          case rel => exact ⟨k + 1, by omega, by go_num, HNX.out, by first | rfl | trivial⟩
          case measure => simp [intOf]; omega
      · have hr : R = (decide (100 < run.length) || big11 F run) := by rw [HR2.out, any_all (p := bigG) (n := k) (by have := HGN.out; omega) HNO.out]; rfl
        have t4 : decide ((k : Int) < (f.gn : Int)) = false := by simp; omega
        by_cases h100 : 100 < rn
        · have t5 : decide ((100 : Int) < (rn : Int)) = true := by simp; omega
          have hr2 : R = true := by rw [hr, HRL.out]; simp [h100]
          have HT := Lib.hid hr2
          clear hr hr2
          go_wp2
          go_ret
          exact ⟨ret_bool HT.out.symm, bw⟩
        · have t5 : decide ((100 : Int) < (rn : Int)) = false := by simp; omega
          have hr2 : R = big11 F run := by rw [hr, HRL.out, show decide (100 < rn) = false by simp; omega]; rfl
          have HT := Lib.hid hr2
          clear hr hr2
          go_wp2_with fail
          refine HB.out.mono ?_
          rintro e w2 ⟨rfl, b2⟩
          go_wp2
          go_ret
          exact ⟨ret_bool HT.out.symm, below_call bw b2⟩

end Go.Proofs.YtbjcbcdccekbkaaGreat
