/- Walks: the groups of runes, as an iterator. -/
import Derived.Test.YtdacfcfgikllpaaW11
import Derived.RangeFuncNested
import Derived.RangeFuncBound
import Derived.RangeFuncCalls
import Derived.RangeFuncLeaves
import Derived.Shelf.Abstract
import Derived.Shelf.RegionOpen
import Derived.OwnWalkIn
import Derived.TacticsInMore
import Derived.LoopNIn
import Derived.LoopIn
namespace Go.Proofs.Ytdacfcfgikllpaa
open Go.RowKit Go.Shelf
attribute [local go_sem] Oper.semAt_some

/-- A group of n runes: some of them, from a place on up to another. -/
abbrev Grp (n : Nat) := { g : Nat × Nat // g.1 < g.2 ∧ g.2 ≤ n }

/-- What a round keeps: the box of the runes, and what lies below Bd. -/
def Kp (Bx Bd : Nat) (W W' : World) : Prop := W'.heap[Bx]? = W.heap[Bx]? ∧ ∀ k, k < Bd → W'.heap[k]? = W.heap[k]?
theorem Kp.refl (Bx Bd : Nat) (W : World) : Kp Bx Bd W W := ⟨rfl, fun _ _ => rfl⟩
theorem Kp.trans {Bx Bd : Nat} {A B C : World} (h : Kp Bx Bd A B) (k : Kp Bx Bd B C) : Kp Bx Bd A C := ⟨k.1.trans h.1, fun i hi => (k.2 i hi).trans (h.2 i hi)⟩
theorem Kp.cell {Bx Bd : Nat} {W W' : World} (h : Kp Bx Bd W W') {p : Addr} (hp : p.block = Bx ∨ p.block < Bd) : W'.cell? p = W.cell? p := World.cell?_of_block (by
  rcases hp with hp | hp
  · rw [hp]; exact h.1
  · exact h.2 _ hp)
theorem Kp.of_below {Bx Bd K : Nat} {W W' : World} (h : Below K W W') (h1 : Bx < K) (h2 : Bd ≤ K) : Kp Bx Bd W W' := ⟨h.block _ h1, fun k hk => h.block k (by omega)⟩

theorem groupsFrom_same (xs : List Int) (f from_ i : Nat) (h : i = from_ ∨ kind (xs.getD i 0) = 3) : groupsFrom xs (f + 1) from_ i = groupsFrom xs f from_ (i + 1) := by
  conv => lhs; unfold groupsFrom
  rw [if_pos h]
theorem groupsFrom_cut (xs : List Int) (f from_ i : Nat) (h : ¬ (i = from_ ∨ kind (xs.getD i 0) = 3)) : groupsFrom xs (f + 1) from_ i = (from_, i) :: groupsFrom xs f i (i + 1) := by
  conv => lhs; unfold groupsFrom
  rw [if_neg h]

set_option maxRecDepth 100000 in
set_option maxHeartbeats 2000000 in
theorem groups1_stops (m : Nat) (R : Option Addr) (n c Bx Bd : Nat) (xs : List Int) (w : World) (hm : 1 ≤ m) (hn : n ≤ 100000) (hBx : w.cell? ⟨Bx, 0, none⟩ = some (.slice R n c)) (hBx2 : Bx < w.heap.size) (hR : Rd w Bd R n xs) (hBd : Bd ≤ w.heap.size) :
    SeqStopsK Fence.wide m Try.prog 30 #[.pointer (some ⟨Bx, 0, none⟩)] (fun (g : Grp n) => #[.agg #[.int .i64 ((g.1.1 : Nat) : Int), .int .i64 ((g.1.2 : Nat) : Int)]]) (Kp Bx Bd)
      (fun l => l.map (·.1) = groupsL xs) (fun _ => True) (n + 1) w := by
  intro l J Jx W hbW hJ hJx hY h0
  have HL := Lib.hid hR.len
  have kW : Kp Bx Bd w W := Kp.of_below hbW hBx2 hBd
  refine callsIn_of_wp Try.func30 rfl trivial ?_ rfl
  simp only [Try.ntmps30, List.size_toArray, List.length_cons, List.length_nil, Nat.reduceAdd, Nat.reduceSub, Array.replicate_succ, Array.replicate_zero, List.push_toArray, List.append_toArray, List.nil_append, List.cons_append]
  have cB : W.cell? ⟨Bx, 0, none⟩ = some (.slice R n c) := (kW.cell (.inl rfl)).trans hBx
  have HY := Lib.hid hY; clear hY
  have hFw : ∀ k, Fence.wide.fn k := fun _ => trivial
  gi_wp2
  gi_loopw [3, 8] (fun vf vi wr => ∃ (k f : Nat) (pre : List (Grp n)), vi = .int .i64 k ∧ vf = .int .i64 f ∧ k ≤ n ∧ f ≤ k ∧ pre.length ≤ k ∧ groupsL xs = pre.map (·.1) ++ groupsFrom xs (n - k) f k ∧ J pre wr ∧ Kp Bx Bd w wr) (fun _ vi _ => n - (intOf vi).toNat)
  case atStart => exact ⟨0, 0, [], rfl, rfl, by omega, by omega, by simp, by simp [groupsL, HL.out], h0, kW⟩
  case round =>
    obtain ⟨k, f, pre, rfl, rfl, hk, hf, hpl, hgr, hJs, hkp⟩ := hrel
    have HG := Lib.hid hgr; clear hgr
    have KK := fun (q : Int) (w0 : World) => (callsIn_wide (n := m - 1)).2 (kind_c q w0)
    have KC := Lib.hid KK; clear KK
    have cB2 : wr.cell? ⟨Bx, 0, none⟩ = some (.slice R n c) := (hkp.cell (.inl rfl)).trans hBx
    by_cases hlt : k < n
    · obtain ⟨b, o, rfl, hb, hc⟩ := hR.pos (by omega)
      obtain ⟨x, hx⟩ := getD_some xs k (by have := HL.out; omega)
      have cx : wr.cell? ⟨b, o + k, none⟩ = some (.int .i64 x) := (hkp.cell (.inr hb)).trans (hc k x hx)
      have hgx := getD_of hx
      have hfu : n - k = (n - (k + 1)) + 1 := by omega
      clear hx hc
      by_cases hkf : k = f
      · subst hkf
        have hs := groupsFrom_same xs (n - (k + 1)) k k (.inl rfl)
        rw [← hfu] at hs
        have HS := Lib.hid hs; clear hs hfu hgx
        gi_wp2
        go_roundw
        case rel => exact ⟨k + 1, k, pre, by go_num, rfl, by omega, by omega, by omega, by rw [HG.out, HS.out], hJs, hkp⟩
        case measure => simp [intOf]; omega
      · have t1 : ((k : Int) == (f : Int)) = false := by rw [beq_eq_false_iff_ne]; omega
        by_cases h3 : kind x = 3
        · have hs := groupsFrom_same xs (n - (k + 1)) f k (.inr (by rw [hgx]; exact h3))
          rw [← hfu] at hs
          have HS := Lib.hid hs; clear hs hfu hgx
          gi_wp2_with (gi_at_call 12; refine (KC.out _ _).mono ?_; rintro e w' ⟨rfl, rfl⟩)
          go_roundw
          case rel => exact ⟨k + 1, f, pre, by go_num, rfl, by omega, by omega, by omega, by rw [HG.out, HS.out], hJs, hkp⟩
          case measure => simp [intOf]; omega
        · have t3 : (kind x == 3) = false := by rw [beq_eq_false_iff_ne]; exact h3
          have hs := groupsFrom_cut xs (n - (k + 1)) f k (by rw [hgx]; omega)
          rw [← hfu] at hs
          have HS := Lib.hid hs; clear hs hfu hgx
          obtain ⟨fn, tmps, assign, body, hy, hRd⟩ := HY.out pre ⟨(f, k), by dsimp only; omega, by dsimp only; omega⟩ wr hJs (by omega)
          dsimp only at hy
          gi_wp2_with (gi_at_call 12; refine (KC.out _ _).mono ?_; rintro e w' ⟨rfl, rfl⟩)
          refine hRd.mono ?_
          rintro e W3 (⟨rfl, hJ3, hk3⟩ | ⟨rfl, hJx3⟩)
          · gi_wp2
            go_roundw
            case rel => exact ⟨k + 1, k, pre ++ [⟨(f, k), by dsimp only; omega, by dsimp only; omega⟩], by go_num, rfl, by omega, by omega, by simp; omega, by rw [HG.out, HS.out]; simp, hJ3, hkp.trans hk3⟩
            case measure => simp [intOf]; omega
          · gi_wp2
            refine bodyPost_ret (results_none rfl _ _ _) rfl ?_
            exact ⟨⟨_, rfl⟩, .inr ⟨_, trivial, hJx3⟩⟩
    · obtain rfl : k = n := by omega
      by_cases hfn : f < k
      · have hs : groupsFrom xs (k - k) f k = [(f, k)] := by
          rw [Nat.sub_self]; unfold groupsFrom; rw [HL.out, if_pos hfn]
        have HS := Lib.hid hs; clear hs
        obtain ⟨fn, tmps, assign, body, hy, hRd⟩ := HY.out pre ⟨(f, k), hfn, Nat.le_refl _⟩ wr hJs (by omega)
        dsimp only at hy
        gi_wp2
        refine hRd.mono ?_
        rintro e W3 (⟨rfl, hJ3, hk3⟩ | ⟨rfl, hJx3⟩)
        · gi_wp2
          go_end0
          exact ⟨⟨_, rfl⟩, .inl ⟨_, by rw [HG.out, HS.out]; simp, hJ3⟩⟩
        · gi_wp2
          go_end0
          exact ⟨⟨_, rfl⟩, .inr ⟨_, trivial, hJx3⟩⟩
      · have hs : groupsFrom xs (k - k) f k = [] := by
          rw [Nat.sub_self]; unfold groupsFrom; rw [HL.out, if_neg hfn]
        have HS := Lib.hid hs; clear hs
        gi_wp2
        go_end0
        exact ⟨⟨_, rfl⟩, .inl ⟨pre, by rw [HG.out, HS.out]; simp, hJs⟩⟩

end Go.Proofs.Ytdacfcfgikllpaa
