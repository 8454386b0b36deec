/- Walks: the ranges of a set, as an iterator. -/
import Derived.Test.YtladdpfngoldcaaW5
import Derived.RangeFuncNested
import Derived.RangeFuncBound
import Derived.RangeFuncCalls
import Derived.RangeFuncLeaves
import Derived.Shelf.Abstract
import Derived.Shelf.RegionOpen
import Derived.OwnWalkIn
import Derived.TacticsInMore
import Derived.LoopNIn
import Derived.LoopIn
import Derived.Sort.QuietIn
namespace Go.Proofs.Ytladdpfngoldcaa
open Go.RowKit Go.Shelf
attribute [local go_sem] Oper.semAt_some

/-- The longest runs of a rising list: first and last. -/
def rgs : List Int → List (Int × Int)
  | [] => []
  | x :: t => match rgs t with
    | [] => [(x, x)]
    | (a, b) :: r => if x + 1 = a then (x, b) :: r else (x, x) :: (a, b) :: r

theorem rgs_head (x : Int) (t : List Int) : ∃ b r, rgs (x :: t) = (x, b) :: r := by
  unfold rgs
  split
  · exact ⟨_, _, rfl⟩
  · split
    · exact ⟨_, _, rfl⟩
    · exact ⟨_, _, rfl⟩
theorem rgs_alone {x : Int} {t : List Int} (h : ∀ y, t[0]? = some y → y ≠ x + 1) : rgs (x :: t) = (x, x) :: rgs t := by
  cases t with
  | nil => rfl
  | cons y t =>
    obtain ⟨b, r, e⟩ := rgs_head y t
    have := h y rfl
    conv => lhs; unfold rgs
    rw [e]
    dsimp only
    rw [if_neg (by omega)]
theorem rgs_joined {x b : Int} {t : List Int} {r : List (Int × Int)} (h : rgs t = (x + 1, b) :: r) : rgs (x :: t) = (x, b) :: r := by
  conv => lhs; unfold rgs
  rw [h]; dsimp only; rw [if_pos rfl]

/-- A run from place f to place l. -/
theorem rgs_run {T : List Int} {f l : Nat} {x y : Int} (hfl : f ≤ l) (hx : T[f]? = some x) (hy : T[l]? = some y) (hrun : ∀ i, f ≤ i → i < l → ∀ a b, T[i]? = some a → T[i + 1]? = some b → b = a + 1) (hend : ∀ z, T[l + 1]? = some z → z ≠ y + 1) :
    rgs (T.drop f) = (x, y) :: rgs (T.drop (l + 1)) := by
  obtain ⟨d, rfl⟩ : ∃ d, l = f + d := ⟨l - f, by omega⟩
  induction d generalizing f x with
  | zero =>
    rw [Nat.add_zero] at *
    rw [hx] at hy; injection hy with hy; subst hy
    obtain ⟨hf, rfl⟩ := List.getElem?_eq_some_iff.1 hx
    rw [List.drop_eq_getElem_cons hf]
    refine rgs_alone fun z hz => ?_
    rw [List.getElem?_drop, Nat.add_zero] at hz
    exact hend z hz
  | succ d ih =>
    obtain ⟨hf, rfl⟩ := List.getElem?_eq_some_iff.1 hx
    have hl : f + (d + 1) < T.length := (List.getElem?_eq_some_iff.1 hy).1
    rw [List.drop_eq_getElem_cons hf]
    have h2 : T[f + 1]? = some (T[f] + 1) := by
      rw [List.getElem?_eq_getElem (by omega)]
      congr 1
      exact hrun f (by omega) (by omega) _ _ hx (List.getElem?_eq_getElem (by omega))
    have e : f + (d + 1) = f + 1 + d := by omega
    rw [e] at hy hend hrun ⊢
    exact rgs_joined (ih (f := f + 1) h2 (by omega) hy (fun i h1 h3 => hrun i (by omega) h3) hend)
theorem rgs_length (T : List Int) : (rgs T).length ≤ T.length := by
  induction T with
  | nil => simp [rgs]
  | cons x t ih =>
    unfold rgs
    split
    · simp
    · rename_i h; rw [h] at ih; simp at ih
      split <;> simp <;> omega

/-- What a round keeps: the box of the set, and what lies from Lo on, below Bd. -/
def Kp (Bx Lo Bd : Nat) (W W' : World) : Prop := W'.heap[Bx]? = W.heap[Bx]? ∧ ∀ k, Lo ≤ k → k < Bd → W'.heap[k]? = W.heap[k]?
theorem Kp.refl (Bx Lo Bd : Nat) (W : World) : Kp Bx Lo Bd W W := ⟨rfl, fun _ _ _ => rfl⟩
theorem Kp.trans {Bx Lo Bd : Nat} {A B C : World} (h : Kp Bx Lo Bd A B) (k : Kp Bx Lo Bd B C) : Kp Bx Lo Bd A C := ⟨k.1.trans h.1, fun i h1 hi => (k.2 i h1 hi).trans (h.2 i h1 hi)⟩
theorem Kp.cell {Bx Lo Bd : Nat} {W W' : World} (h : Kp Bx Lo Bd W W') {p : Addr} (hp : p.block = Bx ∨ (Lo ≤ p.block ∧ p.block < Bd)) : W'.cell? p = W.cell? p := World.cell?_of_block (by
  rcases hp with hp | hp
  · rw [hp]; exact h.1
  · exact h.2 _ hp.1 hp.2)
theorem Kp.of_below {Bx Lo Bd K : Nat} {W W' : World} (h : Below K W W') (h1 : Bx < K) (h2 : Bd ≤ K) : Kp Bx Lo Bd W W' := ⟨h.block _ h1, fun k _ hk => h.block k (by omega)⟩

def In64 (xs : List Int) : Prop := ∀ x ∈ xs, -9223372036854775808 ≤ x ∧ x ≤ 9223372036854775807

theorem run_next {T : List Int} {f l : Nat} {a b : Int} (hrun : ∀ i, f ≤ i → i < l → ∀ a b, T[i]? = some a → T[i + 1]? = some b → b = a + 1) (ha : T[l]? = some a) (hb : T[l + 1]? = some b) (h : b = a + 1) :
    ∀ i, f ≤ i → i < l + 1 → ∀ a b, T[i]? = some a → T[i + 1]? = some b → b = a + 1 := by
  intro i h1 h2 x y hx hy
  by_cases e : i = l
  · subst e; rw [ha] at hx; rw [hb] at hy; injection hx with hx; injection hy with hy; omega
  · exact hrun i h1 (by omega) x y hx hy
theorem grown_drewN (w : World) (d : Nat) : w.grownBy (w.drewN d) none := ⟨rfl, rfl, rfl, Nat.le_refl _, fun _ _ _ => rfl⟩

set_option maxRecDepth 100000 in
set_option maxHeartbeats 4000000 in
theorem ranges1_stops (m : Nat) (R : Option Addr) (n c Bx Lo Bd : Nat) (T : List Int) (w : World) (hm : 1 ≤ m) (hn : n ≤ 100000) (hBx : w.cell? ⟨Bx, 0, none⟩ = some (.slice R n c)) (hBx2 : Bx < w.heap.size) (hR : Rd w Bd R n T) (hBd : Bd ≤ w.heap.size) (hlo : ∀ b o, R = some ⟨b, o, none⟩ → Lo ≤ b) (hT : Srt T) (hin : In64 T) :
    SeqStopsK Fence.wide m Try.prog 40 #[.pointer (some ⟨Bx, 0, none⟩)] (fun (g : Int × Int) => #[.int .i64 g.1, .int .i64 g.2]) (Kp Bx Lo Bd)
      (fun l => l = rgs T) (fun _ => True) (n + 1) w := by
  intro l J Jx W hbW hJ hJx hY h0
  have HL := Lib.hid hR.len
  have HJ := Lib.hid hJ; clear hJ hJx
  have kW : Kp Bx Lo Bd w W := Kp.of_below hbW hBx2 hBd
  refine callsIn_of_wp Try.func40 rfl trivial ?_ rfl
  simp only [Try.ntmps40, List.size_toArray, List.length_cons, List.length_nil, Nat.reduceAdd, Nat.reduceSub, Array.replicate_succ, Array.replicate_zero, List.push_toArray, List.append_toArray, List.nil_append, List.cons_append]
  have cB : W.cell? ⟨Bx, 0, none⟩ = some (.slice R n c) := (kW.cell (.inl rfl)).trans hBx
  have HY := Lib.hid hY; clear hY
  have HT := Lib.hid hT; have HIN := Lib.hid hin; clear hT hin
  have hFw : ∀ k, Fence.wide.fn k := fun _ => trivial
  gi_wp2
  gi_loopw [3] (fun vf wr => ∃ (f : Nat) (pre : List (Int × Int)), vf = .int .i64 f ∧ f ≤ n ∧ pre.length ≤ f ∧ rgs T = pre ++ rgs (T.drop f) ∧ J pre wr ∧ Kp Bx Lo Bd w wr) (fun vf _ => n - (intOf vf).toNat)
  case atStart => exact ⟨0, [], rfl, by omega, by simp, by simp, h0, kW⟩
  case round =>
    obtain ⟨f, pre, rfl, hf, hpl, hgr, hJs, hkp⟩ := hrel
    have HG := Lib.hid hgr; clear hgr
    have cB2 : wr.cell? ⟨Bx, 0, none⟩ = some (.slice R n c) := (hkp.cell (.inl rfl)).trans hBx
    by_cases hlt : f < n
    · obtain ⟨b, o, rfl, hb, hc⟩ := hR.pos (by omega)
      have hcr : ∀ (i : Nat) (x : Int), T[i]? = some x → wr.cell? ⟨b, o + i, none⟩ = some (.int .i64 x) := fun i x hx => (hkp.cell (.inr ⟨hlo b o rfl, hb⟩)).trans (hc i x hx)
      have HC := Lib.hid hcr; clear hcr hc hlo
      gi_wp2
      gi_loopw [4] (fun v wr2 => ∃ (q d : Nat), v = .int .i64 q ∧ f ≤ q ∧ q < n ∧ wr2 = wr.drewN d ∧ ∀ i, f ≤ i → i < q → ∀ a b, T[i]? = some a → T[i + 1]? = some b → b = a + 1) (fun v _ => n - (intOf v).toNat)
      case atStart => exact ⟨f, 0, rfl, Nat.le_refl _, hlt, rfl, fun i h1 h2 => by omega⟩
      case round =>
        obtain ⟨q, d, rfl, hq1, hq2, rfl, hrun⟩ := hrel
        have HRUN := Lib.hid hrun; clear hrun
        obtain ⟨y, hy⟩ := getD_some T q (by have := HL.out; omega)
        have g1 := HC.out q y hy
        have by_ := HIN.out y (List.mem_of_getElem? hy)
        have HYY := Lib.hid hy; clear hy
        have q0 : (0 : Int) ≤ (q : Int) := by omega
        have qn : (q : Int) < (n : Int) := by omega
        by_cases hq3 : q + 1 < n
        · obtain ⟨z, hz⟩ := getD_some T (q + 1) (by have := HL.out; omega)
          have g2 := HC.out (q + 1) z hz
          have hyz := srt_at HT.out (Nat.lt_succ_self q) HYY.out hz
          have HZ := Lib.hid hz; clear hz
          have bz := HIN.out z (List.mem_of_getElem? HZ.out)
          have q1n : (q : Int) + 1 < (n : Int) := by omega
          by_cases hzy : z = y + 1
          · have e : (z - 1 == y) = true := by simp; omega
            gi_wp2
            gi_quiet (fail)
            gi_wp2
            go_roundw
            case rel => exact ⟨q + 1, d + nq, by go_num, by omega, by omega, by simp, run_next HRUN.out HYY.out HZ.out hzy⟩
            case measure => simp [intOf]; omega
          · have e : (z - 1 == y) = false := by rw [beq_eq_false_iff_ne]; omega
            gi_wp2
            gi_quiet (fail)
            obtain ⟨x, hx⟩ := getD_some T f (by have := HL.out; omega)
            have g3 := HC.out f x hx
            have HX := Lib.hid hx; clear hx
            have hrr := rgs_run hq1 HX.out HYY.out HRUN.out (fun u hu => by rw [HZ.out] at hu; injection hu with hu; omega)
            have HRR := Lib.hid hrr; clear hrr
            have f0 : (0 : Int) ≤ (f : Int) := by omega
            have fn_ : (f : Int) < (n : Int) := by omega
            obtain ⟨fn, tmps, assign, body, hy, hRd⟩ := HY.out pre (x, y) (wr.drewN (d + nq + 1)) (HJ.out _ _ _ none hJs (grown_drewN _ _) (fun r e => by cases e)) (by omega)
            dsimp only at hy
            have hRd2 := hRd.mono (R' := fun e W' => ∃ bb : Bool, e = .returned (.bool bb) ∧ ((bb = true ∧ J (pre ++ [(x, y)]) W' ∧ Kp Bx Lo Bd (wr.drewN (d + nq + 1)) W') ∨ (bb = false ∧ Jx (pre ++ [(x, y)]) W'))) (by
              rintro e W' (⟨he, h1, h2⟩ | ⟨he, h1⟩)
              · exact ⟨true, he, .inl ⟨rfl, h1, h2⟩⟩
              · exact ⟨false, he, .inr ⟨rfl, h1⟩⟩)
            clear hRd
            have mixed : Try.prog.follows Departure.mixedOrders = true := by kernel_rfl
            gi_wp2
            gi_region_with_o (refine hRd2.mono ?_; rintro e W3 ⟨bb, rfl, hPP⟩)
            all_goals
              clear hy hRd2
              rcases hPP with ⟨rfl, hJ3, hk3⟩ | ⟨rfl, hJx3⟩
              · gi_wp2
                go_roundw
                case rel => exact ⟨q + 1, pre ++ [(x, y)], by go_num, by omega, by simp; omega, by rw [HG.out, HRR.out]; simp, hJ3, hkp.trans (Kp.trans (Kp.refl _ _ _ _) hk3)⟩
                case measure => simp [intOf]; omega
              · gi_wp2
                refine bodyPost_ret (results_none rfl _ _ _) rfl ?_
                exact ⟨⟨_, rfl⟩, .inr ⟨_, trivial, hJx3⟩⟩
        · have e : decide ((q : Int) + 1 < (n : Int)) = false := by simp; omega
          gi_wp2
          gi_quiet (fail)
          obtain ⟨x, hx⟩ := getD_some T f (by have := HL.out; omega)
          have g3 := HC.out f x hx
          have HX := Lib.hid hx; clear hx
          have hrr := rgs_run hq1 HX.out HYY.out HRUN.out (fun u hu => by rw [List.getElem?_eq_none (by rw [HL.out]; omega)] at hu; cases hu)
          have HRR := Lib.hid hrr; clear hrr
          have f0 : (0 : Int) ≤ (f : Int) := by omega
          have fn_ : (f : Int) < (n : Int) := by omega
          obtain ⟨fn, tmps, assign, body, hy, hRd⟩ := HY.out pre (x, y) (wr.drewN (d + nq + 1)) (HJ.out _ _ _ none hJs (grown_drewN _ _) (fun r e => by cases e)) (by omega)
          dsimp only at hy
          have hRd2 := hRd.mono (R' := fun e W' => ∃ bb : Bool, e = .returned (.bool bb) ∧ ((bb = true ∧ J (pre ++ [(x, y)]) W' ∧ Kp Bx Lo Bd (wr.drewN (d + nq + 1)) W') ∨ (bb = false ∧ Jx (pre ++ [(x, y)]) W'))) (by
            rintro e W' (⟨he, h1, h2⟩ | ⟨he, h1⟩)
            · exact ⟨true, he, .inl ⟨rfl, h1, h2⟩⟩
            · exact ⟨false, he, .inr ⟨rfl, h1⟩⟩)
          clear hRd
          have mixed : Try.prog.follows Departure.mixedOrders = true := by kernel_rfl
          gi_wp2
          gi_region_with_o (refine hRd2.mono ?_; rintro e W3 ⟨bb, rfl, hPP⟩)
          all_goals
            clear hy hRd2
            rcases hPP with ⟨rfl, hJ3, hk3⟩ | ⟨rfl, hJx3⟩
            · gi_wp2
              go_roundw
              case rel => exact ⟨q + 1, pre ++ [(x, y)], by go_num, by omega, by simp; omega, by rw [HG.out, HRR.out]; simp, hJ3, hkp.trans (Kp.trans (Kp.refl _ _ _ _) hk3)⟩
              case measure => simp [intOf]; omega
            · gi_wp2
              refine bodyPost_ret (results_none rfl _ _ _) rfl ?_
              exact ⟨⟨_, rfl⟩, .inr ⟨_, trivial, hJx3⟩⟩
    · gi_wp2
      go_end0
      refine ⟨⟨_, rfl⟩, .inl ⟨pre, ?_, hJs⟩⟩
      rw [HG.out, List.drop_eq_nil_of_le (by rw [HL.out]; omega)]; simp [rgs]

end Go.Proofs.Ytladdpfngoldcaa
