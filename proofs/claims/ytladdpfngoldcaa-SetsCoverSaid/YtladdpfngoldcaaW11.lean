/- Walks: Partition of no numbers; rows of pairs held against each other. -/
import Derived.Test.YtladdpfngoldcaaW10
namespace Go.Proofs.Ytladdpfngoldcaa
open Go.RowKit Go.Maps

theorem part_nil (n : Int) (A : Option Addr) (m c : Nat) (w : World) (h : n < 1 ∨ 65536 < n) :
    Calls Try.prog 22 #[.int .i64 n, .slice A m c] w fun e w' => e = .returned (.slice none 0 0) ∧ w = w' := by
  rcases h with h | h
  · go_enter Try.func22, Try.ntmps22
    go_wp2
    go_ret
    exact ⟨rfl, rfl⟩
  · have t : decide (n < 1) = false := by simp; omega
    go_enter Try.func22, Try.ntmps22
    go_wp2
    go_ret
    exact ⟨rfl, rfl⟩

/-- A row of pairs of ints is read. -/
def Rd2 (w : World) (B : Nat) (A : Option Addr) (n : Nat) (l : List (Int × Int)) : Prop :=
  l.length = n ∧ (0 < n → ∃ b o, A = some ⟨b, o, none⟩ ∧ b < B ∧ ∀ (i : Nat) (p : Int × Int), l[i]? = some p → w.cell? ⟨b, o + i * 2, none⟩ = some (.int .i64 p.1) ∧ w.cell? ⟨b, o + i * 2 + 1, none⟩ = some (.int .i64 p.2))
section
variable {w w' : World} {B B' n : Nat} {A : Option Addr} {l : List (Int × Int)}
theorem Rd2.len (h : Rd2 w B A n l) : l.length = n := h.1
theorem Rd2.pos (h : Rd2 w B A n l) (hn : 0 < n) : ∃ b o, A = some ⟨b, o, none⟩ ∧ b < B ∧ ∀ (i : Nat) (p : Int × Int), l[i]? = some p → w.cell? ⟨b, o + i * 2, none⟩ = some (.int .i64 p.1) ∧ w.cell? ⟨b, o + i * 2 + 1, none⟩ = some (.int .i64 p.2) := h.2 hn
theorem Rd2.keep (h : Rd2 w B A n l) (hk : ∀ p : Addr, p.block < B → w'.cell? p = w.cell? p) : Rd2 w' B A n l :=
  ⟨h.1, fun hn => by
    obtain ⟨b, o, e, hb, hc⟩ := h.2 hn
    exact ⟨b, o, e, hb, fun i x hx => ⟨(hk _ hb).trans (hc i x hx).1, (hk _ hb).trans (hc i x hx).2⟩⟩⟩
theorem Rd2.more (h : Rd2 w B A n l) (hB : B ≤ B') : Rd2 w B' A n l :=
  ⟨h.1, fun hn => by
    obtain ⟨b, o, e, hb, hc⟩ := h.2 hn
    exact ⟨b, o, e, by omega, hc⟩⟩
theorem Rd2.below (h : Rd2 w B A n l) (hb : Below B w w') : Rd2 w' B A n l := h.keep fun _ hp => hb.cell hp
theorem Rd2.call (h : Rd2 w B A n l) (hB : B ≤ w.heap.size) (k : Below w.heap.size w w') : Rd2 w' w'.heap.size A n l := (h.below (k.mono hB)).more (Nat.le_trans hB k.size)
theorem Rd2.lit (h : Rd2 w w.heap.size A n l) (o : Obj) : Rd2 (w.alloc o) (w.alloc o).heap.size A n l := (h.keep fun p hp => World.cell?_alloc_lt w o p (by omega)).more (by simp)
end
theorem prs_at {l : List (Int × Int)} {i : Nat} {p : Int × Int} (h : l[i]? = some p) : (prs l)[i * 2]? = some (.int .i64 p.1) ∧ (prs l)[i * 2 + 1]? = some (.int .i64 p.2) := by
  induction l generalizing i with
  | nil => cases h
  | cons q t ih =>
    have e : prs (q :: t) = .int .i64 q.1 :: .int .i64 q.2 :: prs t := by simp [prs]
    rw [e]
    cases i with
    | zero => simp at h; subst h; exact ⟨rfl, rfl⟩
    | succ i =>
      have := ih (by simpa using h)
      rw [show (i + 1) * 2 = i * 2 + 1 + 1 by omega]
      exact ⟨by simpa using this.1, by simpa using this.2⟩
theorem Ow2.len {w : World} {base n c : Nat} {A : Option Addr} {l : List (Int × Int)} (h : Ow2 w base A n c l) : l.length = n := by
  have h1 : (prs l).length = n * 2 := h.1
  rw [prs_length] at h1; omega
theorem Ow2.rd {w : World} {base n c : Nat} {A : Option Addr} {l : List (Int × Int)} (h : Ow2 w base A n c l) : Rd2 w w.heap.size A n l := by
  refine ⟨h.len, fun hn => ?_⟩
  have h' : w.ownsRow base 30 2 (.slice A n c) n (prs l) := h
  obtain ⟨g, cap, hv, _, hlt⟩ := World.ownsRow.form h' hn
  have hA : A = some ⟨g, 0, none⟩ := by injection hv
  subst hA
  have hcap : c = cap := by injection hv
  refine ⟨g, 0, rfl, hlt, fun i p hp => ?_⟩
  have hi : i < n := by
    have h2 := (List.getElem?_eq_some_iff.1 hp).1
    have := h.len
    omega
  obtain ⟨p1, p2⟩ := prs_at hp
  have l1 := prs_length l
  have l2 := h.len
  have c1 := World.ownsRow.cellAt h' (i * 2) (by omega)
  have c2 := World.ownsRow.cellAt h' (i * 2 + 1) (by omega)
  rw [Nat.zero_add, c1, c2]
  exact ⟨p1, p2⟩

theorem pair_eq (w : World) (a b c d : Int) : (Op.equalIn 10000 30 (.agg #[.int .i64 a, .int .i64 b]) (.agg #[.int .i64 c, .int .i64 d])).run Try.prog w = .ok (a == c && b == d) w := by
  have hsz : ∀ w, (sizeOf 3).run Try.prog w = .ok 1 w := fun w => by kernel_rfl
  rw [show (10000 : Nat) = 9998 + 1 + 1 from rfl, Op.equalIn]
  simp only [Sem.run_bind, run_underlying Try.underlying30, Result.andThen_ok, hsz, Std.Legacy.Range.forIn_eq_forIn_range', Std.Legacy.Range.size, Nat.sub_zero, Nat.add_sub_cancel, Nat.div_one]
  have px : ∀ w, (part 3 #[.int .i64 a, .int .i64 b] (0 * 1)).run Try.prog w = .ok (.int .i64 a) w := fun w => by simp [part, isAgg, run_underlying Try.underlying3]
  have py : ∀ w, (part 3 #[.int .i64 c, .int .i64 d] (0 * 1)).run Try.prog w = .ok (.int .i64 c) w := fun w => by simp [part, isAgg, run_underlying Try.underlying3]
  have qx : ∀ w, (part 3 #[.int .i64 a, .int .i64 b] (1 * 1)).run Try.prog w = .ok (.int .i64 b) w := fun w => by simp [part, isAgg, run_underlying Try.underlying3]
  have qy : ∀ w, (part 3 #[.int .i64 c, .int .i64 d] (1 * 1)).run Try.prog w = .ok (.int .i64 d) w := fun w => by simp [part, isAgg, run_underlying Try.underlying3]
  have e1 : ∀ w, (Op.equalIn (9998 + 1) 3 (.int .i64 a) (.int .i64 c)).run Try.prog w = .ok (a == c) w := fun w => run_equalIn_int w 9998 3 .i64 .i64 _ _ Try.underlying3
  have e2 : ∀ w, (Op.equalIn (9998 + 1) 3 (.int .i64 b) (.int .i64 d)).run Try.prog w = .ok (b == d) w := fun w => run_equalIn_int w 9998 3 .i64 .i64 _ _ Try.underlying3
  have hr : List.range' 0 2 1 = [0, 1] := rfl
  rw [hr]
  simp only [List.forIn_cons, List.forIn_nil, Sem.run_bind, px, py, e1, Result.andThen_ok]
  cases h1 : (a == c)
  · simp
  · simp only [Bool.not_true, Bool.false_eq_true, if_false, Sem.run_pure, Sem.run_bind, Result.andThen_ok, qx, qy, e2]
    cases h2 : (b == d) <;> simp
theorem pair_guard : Try.prog.eqGuardType Try.prog.depth 30 = false := by kernel_rfl

theorem take_snoc_eq2 {xs ys : List (Int × Int)} (k : Nat) (x : Int × Int) (hx : xs[k]? = some x) (hy : ys[k]? = some x) (h : xs.take k = ys.take k) : xs.take (k + 1) = ys.take (k + 1) := by
  rw [List.take_add_one, List.take_add_one, hx, hy, h]

set_option maxHeartbeats 800000 in
theorem same2_c (A B : Option Addr) (n m c d : Nat) (xs ys : List (Int × Int)) (w : World) (hA : Rd2 w w.heap.size A n xs) (hB : Rd2 w w.heap.size B m ys) (hn : n ≤ 1000000000) (hm : m ≤ 1000000000) :
    Calls Try.prog 15 #[.slice A n c, .slice B m d] w fun e w' => e = .returned (.bool (decide (xs = ys))) ∧ Below w.heap.size w w' := by
  by_cases hnm : n = m
  · subst hnm
    have hl1 := Lib.hid hA.len
    have hl2 := Lib.hid hB.len
    go_enter Try.func15, Try.ntmps15
    go_wp2
    go_loopw [5] (fun i wr => ∃ k d : Nat, k ≤ n ∧ i = .int .i64 k ∧ xs.take k = ys.take k ∧ wr = w.drewN d) (fun i _ => n - (intOf i).toNat)
    case atStart => exact ⟨0, 0, by omega, rfl, rfl, rfl⟩
    case round =>
      obtain ⟨k, d, hk, rfl, ht, rfl⟩ := hrel
      have HT := Lib.hid ht; clear ht
      by_cases hlt : k < n
      · obtain ⟨b1, o1, rfl, _, hc1⟩ := hA.pos (by omega)
        obtain ⟨b2, o2, rfl, _, hc2⟩ := hB.pos (by omega)
        obtain ⟨x, hx⟩ : ∃ x, xs[k]? = some x := ⟨_, List.getElem?_eq_getElem (by rw [hl1.out]; exact hlt)⟩
        obtain ⟨y, hy⟩ : ∃ y, ys[k]? = some y := ⟨_, List.getElem?_eq_getElem (by rw [hl2.out]; exact hlt)⟩
        obtain ⟨x1, x2⟩ := x
        obtain ⟨y1, y2⟩ := y
        obtain ⟨g1, g1'⟩ := hc1 k _ hx
        obtain ⟨g2, g2'⟩ := hc2 k _ hy
        have HX := Lib.hid hx; have HY := Lib.hid hy
        clear hx hy hc1 hc2
        have hkz : (0 : Int) ≤ (k : Int) := by omega
        have hkn : (k : Int) < (n : Int) := by omega
        have hpg := pair_guard
        have hpe := fun w0 => pair_eq w0 x1 x2 y1 y2
        by_cases hxy : x1 = y1 ∧ x2 = y2
        · obtain ⟨rfl, rfl⟩ := hxy
          have t1 : (x1 == x1 && x2 == x2) = true := by simp
          go_wp2
          go_quiet (fail)
          go_wp2
          go_roundw
          case rel => exact ⟨k + 1, d + nq, by omega, by go_num, take_snoc_eq2 k _ HX.out HY.out HT.out, by simp⟩
          case measure => simp [intOf]; omega
        · have t1 : (x1 == y1 && x2 == y2) = false := by rw [Bool.eq_false_iff]; simpa using hxy
          have hne : decide (xs = ys) = false := by
            rw [decide_eq_false_iff_not]; rintro rfl
            have := HX.out; rw [HY.out] at this; injection this with this; injection this with e1 e2
            exact hxy ⟨e1.symm, e2.symm⟩
          have HNE := Lib.hid hne
          rw [t1] at hpe
          clear hne hxy t1
          go_wp2
          go_quiet (fail)
          go_wp2
          go_ret
          exact ⟨ret_bool HNE.out.symm, below_drewN (below_drewN (Below.refl _ _) _) _⟩
      · go_wp2
        go_ret
        refine ⟨ret_bool ?_, below_drewN (Below.refl _ _) _⟩
        have e1 : xs.take k = xs := List.take_of_length_le (by have := hl1.out; omega)
        have e2 : ys.take k = ys := List.take_of_length_le (by have := hl2.out; omega)
        have := HT.out
        rw [e1, e2] at this
        simp [this]
  · have hl1 := hA.len
    have hl2 := hB.len
    have hne : decide (xs = ys) = false := by
      simp; rintro rfl; omega
    have HNE := Lib.hid hne; clear hne hl1 hl2
    have ht : ((n : Int) != (m : Int)) = true := by rw [bne_iff_ne]; omega
    go_enter Try.func15, Try.ntmps15
    go_wp2
    go_ret
    exact ⟨ret_bool HNE.out.symm, Below.refl _ _⟩

end Go.Proofs.Ytladdpfngoldcaa
