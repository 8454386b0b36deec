/- Walk: AttachRises. -/
import Derived.Test.YtbjcbcdccekbkaaB0
namespace Go.Proofs.Ytbjcbcdccekbkaa
open Go.RowKit Go.Shelf

theorem up_next {run : List Itm} {d : Int} {j : Nat} {it : Itm} (h : run[j]? = some it) : (upR w64 d run).take (j + 1) = (upR w64 d run).take j ++ [upI w64 d it] := by
  unfold upR; rw [List.take_add_one, List.getElem?_map, h]; rfl
theorem news_two (w : World) (x : Obj) (cs : Array Value) (e : TypeId) : 0 < 1 → ∃ b o, some (⟨w.heap.size + 1, 0, none⟩ : Addr) = some ⟨b, o, none⟩ ∧ ∀ j u, cs.toList[j]? = some u → ((w.alloc x).alloc (.cells cs e)).cell? ⟨b, o + j, none⟩ = some u :=
  fun _ => ⟨_, _, rfl, fun j u hu => by
    have q := Bk.new (w.alloc x) e cs
    rw [World.size_alloc] at q
    rw [q.cell, Nat.zero_add]; simpa using hu⟩
theorem itc_snoc (xs : List Itm) (it : Itm) : itc (xs ++ [it]) = itc xs ++ itmC it := by rw [itc_app]; simp [itc]

set_option maxRecDepth 100000 in
set_option maxHeartbeats 4000000 in
theorem attachRises_walk (f : FV) (F : Fnt) (lookup : Int) (RA : Option Addr) (rn rc : Nat) (run : List Itm) (w : World) (hf : IsF w (lo w.heap.size) f F) (hI : RdI w (lo w.heap.size) RA rn run) (hd : Hd rn rc) :
    Calls Try.prog 10 #[.agg f.cells, .int .i64 lookup, .slice RA rn rc] w (TP w) := by
  have hrnM : rn ≤ 9223372036854775807 := Nat.le_trans hd.1 hd.2
  have hs_0 := LS.new hf hI
  unfold FV.cells at hs_0 ⊢
  go_enter Try.func10, Try.ntmps10
  go_wp2_with fail
  generalize w.alloc (.cells #[.int .i64 f.u0, .slice f.ga f.gn f.gc, .slice f.ca f.cn f.cc, .slice f.la f.ln f.lc, .slice f.a4 f.n4 f.c4, .slice f.a5 f.n5 f.c5, .slice f.a6 f.n6 f.c6, .slice f.a7 f.n7 f.c7, .slice f.a8 f.n8 f.c8] 31) = w0 at hs_0 ⊢
  generalize hbf : w.heap.size = bf at hs_0 ⊢
  clear hbf hf hI
  have HC := Lib.hid (big14_c f F RA rn rc run w0 hs_0.hf hs_0.hI hrnM)
  unfold FV.cells at HC
  refine HC.out.mono ?_
  rintro e w1 ⟨rfl, b1⟩
  clear HC
  have hs_1 := hs_0.call b1
  clear hs_0 b1
  cases hbig : big14 F run with
  | true =>
    go_wp2_with fail
    refine (hung_c w1).mono ?_
    rintro e w2 ⟨rfl, b2⟩
    go_wp2
    go_ret
    exact ⟨rfl, below_call hs_1.bw b2⟩
  | false =>
    obtain ⟨hl, hsm⟩ := small14 hbig
    have hrl := hs_1.hI.len
    have hrn : rn ≤ 100 := by omega
    have HRL := Lib.hid hrl
    clear hbig
    by_cases h0 : rn = 0
    · subst h0
      clear hrl hl
      go_wp2_with fail
      refine (hung_c w1).mono ?_
      rintro e w2 ⟨rfl, b2⟩
      go_wp2
      go_ret
      exact ⟨rfl, below_call hs_1.bw b2⟩
    · have e0 : ((rn : Int) == 0) = false := by simp; omega
      have HC8 := Lib.hid fun (W : World) (A : Option Addr) (n c : Nat) (r : List Itm) (h1 : IsF W (lo W.heap.size) f F) (h2 : RdI W (lo W.heap.size) A n r) (hn : n ≤ 100) => aApply_c f F lookup A n c r W h1 h2 (by omega) hsm
      obtain ⟨i0, hi0⟩ := at_some run 0 (by omega)
      obtain ⟨rb, ro, hRA, _, hc⟩ := hs_1.hI.pos (by omega)
      obtain ⟨cs, rfl, hcc⟩ := hc 0 i0 hi0
      have z3 := hcc 3 _ rfl
      simp only [Nat.zero_mul, Nat.add_zero] at z3
      subst hRA
      have rz : (0 : Int) < (rn : Int) := by omega
      have rz' : 0 < rn := by omega
      clear hi0 hc hcc hl hrl hsm
      obtain ⟨d, hd0⟩ : ∃ d, d = i0.a := ⟨_, rfl⟩
      rw [← hd0] at z3
      clear hd0
      go_wp2
      go_loopw [8, 9] (fun s8 s9 wr => ∃ (j c : Nat) (A : Option Addr), j ≤ rn ∧ s9 = .int .i64 j ∧ s8 = .slice A j c ∧ Ow 51 6 wr w1.heap.size A j c (itc ((upR w64 d run).take j)) ∧ Below w1.heap.size w1 wr) (fun _ i _ => rn - (intOf i).toNat)
      case atStart => exact ⟨0, 0, _, by omega, rfl, rfl, own_empty w1 _ _, (Below.refl _ _).alloc (Nat.le_refl _) _⟩
      case round =>
        obtain ⟨j, c, A, hj, rfl, rfl, ho, hbr⟩ := hrel
        have hsr := hs_1.call hbr
        by_cases hlt : j < rn
        · obtain ⟨it, hit⟩ := at_some run j (by have := HRL.out; omega)
          obtain ⟨rb', ro', e1, _, hc⟩ := hsr.hI.pos (by omega)
          injection e1 with e1; injection e1 with e1 e2
          subst e1; subst e2
          obtain ⟨cs, rfl, hcc⟩ := hc j it hit
          have g0 := hcc 0 _ rfl
          have g1 := hcc 1 _ rfl
          have g2 := hcc 2 _ rfl
          have g3 := hcc 3 _ rfl
          have g4 := hcc 4 _ rfl
          have g5 := hcc 5 _ rfl
          rw [Nat.add_zero] at g0
          have HUN := Lib.hid (up_next (d := d) hit)
          have jz : (0 : Int) ≤ (j : Int) := by omega
          have jn : (j : Int) < (rn : Int) := by omega
          clear hit hc hcc z3
          have ho2 := (ho.alloc (.cells #[.int .i64 it.g, .int .i64 it.c, .int .i64 it.f, .int .i64 it.a, .int .i64 it.x, .int .i64 (wrap64 (it.y + d))] 51)).alloc (.cells #[.int .i64 it.g, .int .i64 it.c, .int .i64 it.f, .int .i64 it.a, .int .i64 it.x, .int .i64 (wrap64 (it.y + d))] 51)
          have hb2 := (hbr.alloc hbr.size (.cells #[.int .i64 it.g, .int .i64 it.c, .int .i64 it.f, .int .i64 it.a, .int .i64 it.x, .int .i64 (wrap64 (it.y + d))] 51)).alloc (by have := hbr.size; simp; omega) (.cells #[.int .i64 it.g, .int .i64 it.c, .int .i64 it.f, .int .i64 it.a, .int .i64 it.x, .int .i64 (wrap64 (it.y + d))] 51)
          have hN := news_two wr (.cells #[.int .i64 it.g, .int .i64 it.c, .int .i64 it.f, .int .i64 it.a, .int .i64 it.x, .int .i64 (wrap64 (it.y + d))] 51) #[.int .i64 it.g, .int .i64 it.c, .int .i64 it.f, .int .i64 it.a, .int .i64 it.x, .int .i64 (wrap64 (it.y + d))] 51
          have hBB : w1.heap.size ≤ ((wr.alloc (.cells #[.int .i64 it.g, .int .i64 it.c, .int .i64 it.f, .int .i64 it.a, .int .i64 it.x, .int .i64 (wrap64 (it.y + d))] 51)).alloc (.cells #[.int .i64 it.g, .int .i64 it.c, .int .i64 it.f, .int .i64 it.a, .int .i64 it.x, .int .i64 (wrap64 (it.y + d))] 51)).heap.size := hb2.size
          go_wp2_with (at_builtin; refine appP elt_item rfl _ _ rfl _ w1.heap.size _ _ _ _ _ _ _ #[.int .i64 it.g, .int .i64 it.c, .int .i64 it.f, .int .i64 it.a, .int .i64 it.x, .int .i64 (wrap64 (it.y + d))].toList (by rfl) (by rfl) ho2 rfl hN (by simp [Value.oneCell']) (by omega) hBB ?_; intro A' c' w' ho' hg' hb' hat')
          go_roundw
          case rel => exact ⟨j + 1, c', A', by omega, by go_num, rfl, by rw [HUN.out, itc_snoc]; exact ho', hb2.trans hb'⟩
          case measure => simp [intOf]; omega
        · have hj2 : j = rn := by omega
          subst hj2
          have hge : decide ((j : Int) < (j : Int)) = false := by simp
          have htk : (upR w64 d run).take j = upR w64 d run := List.take_of_length_le (by rw [upR_len, HRL.out]; exact Nat.le_refl _)
          rw [htk] at ho
          have q_2 := ho.rdI
          have hs_2 := hsr
          have HKP := Lib.hid (attachAll_keeps w64 F lookup run)
          have HUP := Lib.hid (attachAll_up wr64 d F lookup run)
          clear htk ho hsr hbr z3
          obtain ⟨y0, y1, y2, y3, y4, y5, y6, y7, y8⟩ := font_cells hs_2.kf
          go_wp2_with fail
          clear y0 y1 y2 y3 y4 y5 y6 y7 y8
          have HC := Lib.hid (HC8.out wr _ j rc run hs_2.hf hs_2.hI hrn)
          unfold FV.cells at HC
          refine HC.out.mono ?_
          rintro e w3 ⟨A3, n3, c3, rfl, o3, b3⟩
          clear HC
          have l_3 := o3.rdI
          have q_3 := q_2.call b3
          have hs_3 := hs_2.call b3
          clear o3 q_2 hs_2 b3
          obtain ⟨y0, y1, y2, y3, y4, y5, y6, y7, y8⟩ := font_cells hs_3.kf
          go_wp2_with fail
          clear y0 y1 y2 y3 y4 y5 y6 y7 y8
          have HC := Lib.hid (HC8.out w3 A j c _ hs_3.hf q_3 hrn)
          rw [HUP.out] at HC
          unfold FV.cells at HC
          refine HC.out.mono ?_
          rintro e w4 ⟨A4, n4, c4, rfl, o4, b4⟩
          clear HC
          have m_4 := o4.rdI
          have l_4 := l_3.call b4
          have hs_4 := hs_3.call b4
          clear o4 q_3 l_3 hs_3 b4 HC8
          generalize attachAll w64 F lookup run = R at *
          have hRl : R.length = j := HKP.out.1.trans HRL.out
          have hn3 : n3 = j := l_4.len.symm.trans hRl
          have hn4 : n4 = j := m_4.len.symm.trans (by rw [upR_len]; exact hRl)
          subst hn3
          subst hn4
          have HRL2 := Lib.hid hRl
          have e1 : ((n4 : Int) != (n4 : Int)) = false := by simp
          clear hRl HKP HUP
          go_wp2
          go_loopw [13] (fun s13 wr => ∃ q : Nat, q ≤ n4 ∧ s13 = .int .i64 q ∧ Below w4.heap.size w4 wr) (fun i _ => n4 - (intOf i).toNat)
          case atStart => exact ⟨0, by omega, rfl, Below.refl _ _⟩
          case round =>
            obtain ⟨q, hq, rfl, hbr⟩ := hrel
            by_cases hlq : q < n4
            · obtain ⟨it, hit⟩ := at_some R q (by have := HRL2.out; omega)
              have him : (upR w64 d R)[q]? = some (upI w64 d it) := by unfold upR; rw [List.getElem?_map, hit]; rfl
              obtain ⟨b5, o5, rfl, _, hc⟩ := (l_4.call hbr).pos (by omega)
              obtain ⟨b6, o6, rfl, _, hc6⟩ := (m_4.call hbr).pos (by omega)
              obtain ⟨cs, rfl, hcc⟩ := hc q it hit
              obtain ⟨cs, rfl, hdd⟩ := hc6 q _ him
              have g0 := hcc 0 _ rfl
              have g1 := hcc 1 _ rfl
              have g2 := hcc 2 _ rfl
              have g3 := hcc 3 _ rfl
              have g4 := hcc 4 _ rfl
              have g5 := hcc 5 _ rfl
              have k0 := hdd 0 (.int .i64 it.g) rfl
              have k1 := hdd 1 (.int .i64 it.c) rfl
              have k2 := hdd 2 (.int .i64 it.f) rfl
              have k3 := hdd 3 (.int .i64 it.a) rfl
              have k4 := hdd 4 (.int .i64 it.x) rfl
              have k5 := hdd 5 (.int .i64 (wrap64 (it.y + d))) rfl
              rw [Nat.add_zero] at g0 k0
              have lg := cell_lt g0
              have lk := cell_lt k0
              dsimp only at lg lk
              have hpg := item_guard
              have hpe := fun w0 => item_eq w0 (upI w64 d it) (upI w64 d it)
              simp only [decide_true] at hpe
              dsimp only [upI, w64] at hpe
              have qz : (0 : Int) ≤ (q : Int) := by omega
              have qn : (q : Int) < (n4 : Int) := by omega
              clear hit him hc hc6 hcc hdd
              go_wp2
              go_quiet (fail)
              go_wp2
              go_roundw
              case rel => exact ⟨q + 1, by omega, by go_num, below_drewN (hbr.alloc hbr.size _) _⟩
              case measure => simp [intOf]; omega
            · have hge3 : decide ((q : Int) < (n4 : Int)) = false := by simp; omega
              have hge4 : decide (q < n4) = false := by simp; omega
              go_wp2_with fail
              refine (hung_c wr).mono ?_
              rintro e w5 ⟨rfl, b5⟩
              go_wp2
              go_ret
              exact ⟨rfl, below_call hs_4.bw (below_call hbr b5)⟩

end Go.Proofs.Ytbjcbcdccekbkaa
