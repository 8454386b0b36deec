/- Walks: a state's text. -/
import Derived.Test.YtgcmedkaadagmaaDoorV3
import Derived.Laws.BytesArg
namespace Go.Proofs.YtgcmedkaadagmaaDoor
open Go.RowKit Go.Shelf

def byteL (x i : Nat) : Int := ((x : Int) / 2 ^ (8 * i) % 256)
def textN (p : Nat × Nat) : List Int := (List.range 8).map (byteL p.1) ++ (List.range 8).map (byteL p.2)
def textS (p : Nat × Nat) : ByteArray := strOfNums (textN p)
/-- The bytes so far. -/
def textK (m r k i : Nat) : Int := if i < 8 then (if i < k then byteL m i else 0) else if i < 8 + k then byteL r (i - 8) else 0

theorem textK_0 (m r i : Nat) : textK m r 0 i = 0 := by
  unfold textK; split
  · rfl
  · simp
theorem textK_next {m r k : Nat} {cs : Array Value} (hk : k < 8) (hs : cs.size = 16) (h : ∀ i, i < 16 → cs[i]? = some (.int .u8 (textK m r k i))) {i : Nat} (hi : i < 16) :
    ((cs.setIfInBounds k (.int .u8 (byteL m k))).setIfInBounds (8 + k) (.int .u8 (byteL r k)))[i]? = some (.int .u8 (textK m r (k + 1) i)) := by
  rw [Array.getElem?_setIfInBounds, Array.getElem?_setIfInBounds]
  simp only [Array.size_setIfInBounds, hs]
  by_cases h1 : 8 + k = i
  · subst h1
    rw [if_pos rfl, if_pos (by omega)]
    unfold textK
    rw [if_neg (by omega), if_pos (by omega), show 8 + k - 8 = k by omega]
  · rw [if_neg h1]
    by_cases h2 : k = i
    · subst h2
      rw [if_pos rfl, if_pos (by omega)]
      unfold textK
      rw [if_pos (by omega), if_pos (by omega)]
    · rw [if_neg h2, h i hi]
      unfold textK
      congr 2
      by_cases h3 : i < 8
      · rw [if_pos h3, if_pos h3]
        by_cases h4 : i < k
        · rw [if_pos h4, if_pos (by omega)]
        · rw [if_neg h4, if_neg (by omega)]
      · rw [if_neg h3, if_neg h3]
        by_cases h4 : i < 8 + k
        · rw [if_pos h4, if_pos (by omega)]
        · rw [if_neg h4, if_neg (by omega)]
theorem textN_at (m r i : Nat) (hi : i < 16) : some (Value.int .u8 (textK m r 8 i)) = some (Value.int .u8 ((textN (m, r)).getD i 0)) := by
  congr 2
  match i, hi with
  | 0, _ | 1, _ | 2, _ | 3, _ | 4, _ | 5, _ | 6, _ | 7, _ | 8, _ | 9, _ | 10, _ | 11, _ | 12, _ | 13, _ | 14, _ | 15, _ => rfl
  | j + 16, hj => exact absurd hj (by omega)
theorem bytes_inj {x y : Nat} (hx : x < 18446744073709551616) (hy : y < 18446744073709551616) (h : (List.range 8).map (byteL x) = (List.range 8).map (byteL y)) : x = y := by
  have g : ∀ i, i < 8 → byteL x i = byteL y i := fun i hi => List.map_inj_left.1 h i (List.mem_range.2 hi)
  have g0 := g 0 (by omega)
  have g1 := g 1 (by omega)
  have g2 := g 2 (by omega)
  have g3 := g 3 (by omega)
  have g4 := g 4 (by omega)
  have g5 := g 5 (by omega)
  have g6 := g 6 (by omega)
  have g7 := g 7 (by omega)
  unfold byteL at g0 g1 g2 g3 g4 g5 g6 g7
  simp only [Nat.mul_zero, Nat.reduceMul, Int.reducePow] at g0 g1 g2 g3 g4 g5 g6 g7
  omega
theorem byteL_range (x i : Nat) : 0 ≤ byteL x i ∧ byteL x i < 256 := by unfold byteL; omega
theorem textN_inj {p q : Nat × Nat} (h1 : p.1 < 18446744073709551616) (h2 : p.2 < 18446744073709551616) (h3 : q.1 < 18446744073709551616) (h4 : q.2 < 18446744073709551616) (h : textN p = textN q) : p = q := by
  unfold textN at h
  obtain ⟨a, b⟩ := List.append_inj h (by simp)
  exact Prod.ext (bytes_inj h1 h3 a) (bytes_inj h2 h4 b)
theorem strOfNums_inj {xs ys : List Int} (hx : ∀ x ∈ xs, 0 ≤ x ∧ x < 256) (hy : ∀ x ∈ ys, 0 ≤ x ∧ x < 256) (h : strOfNums xs = strOfNums ys) : xs = ys := by
  unfold strOfNums at h
  have h1 : xs.map (fun n => UInt8.ofNat n.toNat) = ys.map (fun n => UInt8.ofNat n.toNat) := by
    simpa using h
  have key : ∀ a b : Int, 0 ≤ a → a < 256 → 0 ≤ b → b < 256 → UInt8.ofNat a.toNat = UInt8.ofNat b.toNat → a = b := fun a b a0 a1 b0 b1 e => by
    have := congrArg UInt8.toNat e
    simp at this
    omega
  clear h
  induction xs generalizing ys with
  | nil => cases ys with
    | nil => rfl
    | cons y ys => simp at h1
  | cons x xs ih => cases ys with
    | nil => simp at h1
    | cons y ys =>
      simp only [List.map_cons, List.cons.injEq] at h1
      obtain ⟨a0, a1⟩ := hx x (List.mem_cons_self ..)
      obtain ⟨b0, b1⟩ := hy y (List.mem_cons_self ..)
      rw [key x y a0 a1 b0 b1 h1.1, ih (fun z hz => hx z (List.mem_cons_of_mem _ hz)) (fun z hz => hy z (List.mem_cons_of_mem _ hz)) h1.2]
theorem textS_inj {p q : Nat × Nat} (h1 : p.1 < 18446744073709551616) (h2 : p.2 < 18446744073709551616) (h3 : q.1 < 18446744073709551616) (h4 : q.2 < 18446744073709551616) (h : textS p = textS q) : p = q := by
  have hr : ∀ p : Nat × Nat, ∀ x ∈ textN p, 0 ≤ x ∧ x < 256 := fun p x hx => by
    unfold textN at hx
    rcases List.mem_append.1 hx with hx | hx
    all_goals
      obtain ⟨i, _, rfl⟩ := List.mem_map.1 hx
      exact byteL_range _ _
  exact textN_inj h1 h2 h3 h4 (strOfNums_inj (hr p) (hr q) h)

set_option maxRecDepth 100000 in
set_option maxHeartbeats 1000000 in
theorem text_c (m r : Nat) (w : World) :
    Calls Tryd.prog 59 #[.agg #[.int .i64 (m : Int), .int .u64 (r : Int)]] w fun e w' => e = .returned (.string (textS (m, r))) ∧ Below w.heap.size w w' := by
  go_enter Tryd.func59, Tryd.ntmps59
  go_wp2
  go_loopw [5] (fun iv wr => ∃ (k : Nat) (cs : Array Value), k ≤ 8 ∧ iv = .int .i64 k ∧ Bk wr w.heap.size 143 #[.int .i64 (m : Int), .int .u64 (r : Int)] ∧ Bk wr (w.heap.size + 1) 203 cs ∧ cs.size = 16 ∧ (∀ i, i < 16 → cs[i]? = some (.int .u8 (textK m r k i))) ∧ Below w.heap.size w wr) (fun iv _ => 8 - (intOf iv).toNat)
  case atStart =>
    refine ⟨0, _, by omega, rfl, ((Bk.new w 143 #[.int .i64 (m : Int), .int .u64 (r : Int)]).alloc _), by have h := Bk.new (w.alloc (.cells #[.int .i64 (m : Int), .int .u64 (r : Int)] 143)) 203 #[.int .u8 0, .int .u8 0, .int .u8 0, .int .u8 0, .int .u8 0, .int .u8 0, .int .u8 0, .int .u8 0, .int .u8 0, .int .u8 0, .int .u8 0, .int .u8 0, .int .u8 0, .int .u8 0, .int .u8 0, .int .u8 0]; simpa using h, rfl, fun i hi => ?_, below_lit _ _ (below_lit _ _ (Below.refl _ _) _) _⟩
    rw [textK_0 m r i]
    match i, hi with
    | 0, _ | 1, _ | 2, _ | 3, _ | 4, _ | 5, _ | 6, _ | 7, _ | 8, _ | 9, _ | 10, _ | 11, _ | 12, _ | 13, _ | 14, _ | 15, _ => rfl
    | j + 16, hj => exact absurd hj (by omega)
  case round =>
    obtain ⟨k, cs, hk, rfl, hp, hb, hsz, hcs, hbr⟩ := hrel
    have HCS := Lib.hid hcs; clear hcs
    have p0 : wr.cell? ⟨w.heap.size, 0, none⟩ = some (.int .i64 (m : Int)) := hp.cell 0
    have p1 : wr.cell? ⟨w.heap.size, 1, none⟩ = some (.int .u64 (r : Int)) := hp.cell 1
    by_cases hlt : k < 8
    · have b0 := (hb.cell k).trans (HCS.out k (by omega))
      have b1 := (hb.cell (8 + k)).trans (HCS.out (8 + k) (by omega))
      have f0 := hb.frozen k
      have f1 := hb.frozen (8 + k)
      have kz : (0 : Int) ≤ (k : Int) := by omega
      have kn : (k : Int) < 8 := by omega
      go_wp2
      go_roundw
      case rel =>
        refine ⟨k + 1, _, by omega, by go_num, (hp.far (p := ⟨w.heap.size + 1, k, none⟩) (by simp) _).far (p := ⟨w.heap.size + 1, 8 + k, none⟩) (by simp) _, (hb.set_ k _).set_ (8 + k) _, by simp [hsz], fun i hi => ?_, (hbr.setCell (p := ⟨w.heap.size + 1, k, none⟩) (by simp) _).setCell (p := ⟨w.heap.size + 1, 8 + k, none⟩) (by simp) _⟩
        exact textK_next hlt hsz HCS.out hi
      case measure => simp [intOf]; omega
    · obtain rfl : k = 8 := by omega
      have hc := run_convert_bytes_arg wr 104 5 Tryd.underlying104 Tryd.underlying5 (w.heap.size + 1) 0 16 16 (textN (m, r)) rfl (fun i hi => (hb.cell (0 + i)).trans (by rw [Nat.zero_add, HCS.out i hi, textN_at m r i hi])) 9 Tryd.underlying9
      clear hlt
      go_wp2
      go_ret
      exact ⟨rfl, hbr⟩

end Go.Proofs.YtgcmedkaadagmaaDoor
