/- Walks: SetsRanges. -/
import Derived.Test.YtladdpfngoldcaaW23
namespace Go.Proofs.Ytladdpfngoldcaa
open Go.RowKit
attribute [local go_sem ↓] Go.wp_at_zero Go.wp_at_succ

theorem IsRow.in64 {w : World} {a : Option Addr} {len cap : Nat} {zs : List Int} (h : IsRow .i64 w a len cap zs) : In64 zs := by
  rcases h with ⟨_, _, _, rfl⟩ | ⟨x, _, _, _, _, _, hw⟩
  · intro x hx; cases hx
  · intro x hx
    have := hw x hx
    simp only [Lit.wf, Bool.and_eq_true, decide_eq_true_eq] at this
    exact ⟨this.1, this.2⟩
def moreL (l : List Int) : List Int := l.flatMap fun x => [x, IntKind.i64.wrap (x + 1)]
theorem moreL_snoc {l : List Int} {k : Nat} {x : Int} (h : l[k]? = some x) : moreL (l.take (k + 1)) = moreL (l.take k) ++ [x, IntKind.i64.wrap (x + 1)] := by
  unfold moreL; rw [List.take_add_one, h]; simp
theorem wrap_in (x : Int) : -9223372036854775808 ≤ IntKind.i64.wrap x ∧ IntKind.i64.wrap x ≤ 9223372036854775807 := by
  rw [IntKind.wrap_i64]; omega
theorem moreL_in64 {l : List Int} (h : In64 l) : In64 (moreL l) := by
  intro y hy
  unfold moreL at hy
  obtain ⟨x, hx, hy⟩ := List.mem_flatMap.1 hy
  simp at hy
  rcases hy with rfl | rfl
  · exact h y hx
  · exact wrap_in _

set_option maxRecDepth 100000 in
set_option maxHeartbeats 2000000 in
theorem setsRanges_walk (a0 : Option Addr) (len0 cap0 : Nat) (z0 : List Int) (w : World) (w0 : IsRow .i64 w a0 len0 cap0 z0) :
    Calls Try.prog 3 #[.slice a0 len0 cap0] w fun e w' => e = .returned (.bool true) ∧ Below w.heap.size w w' := by
  obtain ⟨r0, hlc, hcm⟩ := w0.rd
  have hin : In64 ((z0.take len0).take 40) := fun x hx => w0.in64 x (List.mem_of_mem_take (List.mem_of_mem_take hx))
  clear w0
  go_enter Try.func3, Try.ntmps3
  go_wp2_with fail
  refine (lshown_c _).mono ?_
  rintro e w1 ⟨rfl, b1⟩
  have r1 := r0.call (Nat.le_refl _) b1
  clear r0
  go_wp2_with fail
  refine (few_c _ _ _ _ _ r1 hlc hcm).mono ?_
  rintro e w2 ⟨A, c, rfl, ho, hb2⟩
  have b2 := below_call b1 hb2
  have r2 := ho.rd
  have hn : min len0 40 ≤ 40 := by omega
  generalize (z0.take len0).take 40 = X at *
  generalize min len0 40 = n at *
  have HIN := Lib.hid hin
  have HL := Lib.hid r2.len
  clear r1 b1 hb2 ho hin
  go_wp2_with fail
  go_loopw [5, 6] (fun v i wr => ∃ (k g m c : Nat), k ≤ n ∧ m = 2 * k ∧ i = .int .i64 k ∧ v = .slice (some ⟨g, 0, none⟩) m c ∧ Ow wr w2.heap.size (some ⟨g, 0, none⟩) m c (moreL (X.take k)) ∧ Below w2.heap.size w2 wr) (fun _ i _ => n - (intOf i).toNat)
  case atStart => exact ⟨0, w2.heap.size, 0, 0, by omega, rfl, rfl, rfl, own_empty w2, (Below.refl _ _).alloc (Nat.le_refl _) _⟩
  case round =>
    obtain ⟨k, g, m, c', hk, hm, rfl, rfl, hO, hB⟩ := hrel
    have HM := Lib.hid hm
    have hm80 : m ≤ 80 := by omega
    clear hm
    have bsr := hB.size
    by_cases hlt : k < n
    · have rr := r2.below hB
      obtain ⟨b, o, rfl, hb, hc⟩ := rr.pos (by omega)
      obtain ⟨x, hx⟩ := getD_some X k (by have := HL.out; omega)
      have d1 := hc k x hx
      have d0 := (hB.cell (p := ⟨b, o + k, none⟩) hb).symm.trans d1
      have HS := Lib.hid (moreL_snoc hx)
      have hnew := World.new_ne wr _ d1
      have k0 : (0 : Int) ≤ (k : Int) := by omega
      have kn : (k : Int) < (n : Int) := by omega
      obtain ⟨y, hy⟩ : ∃ y, IntKind.i64.wrap (x + 1) = y := ⟨_, rfl⟩
      have HY := Lib.hid hy
      clear hc rr hx
      go_wp2_with fail
      go_region_held3 (fun w' => w'.cell? ⟨b, o + k, none⟩ = some (.int .i64 x)) (first | go_keep | exact ck6) (first
        | (refine step_appS (by rfl) (.tmp 17) (.tmp 27) (by rfl) _ w2.heap.size _ _ _ _ _ _ _ _ [x, y] (by rfl) (by rfl) (by exact hO.alloc _) (by exact rd_lit wr [x, y] #[.int .i64 x, .int .i64 y] 2 rfl rfl) (by omega) (by simp; omega) ?_; intro A6 c6 w6 ho6 hg6 hb6 hat6; have bb6 : Below w2.heap.size w2 w6 := (hB.alloc bsr (.cells #[.int .i64 x, .int .i64 y] 3)).trans ⟨hb6.os, hb6.tape, hb6.output, hb6.size, hb6.block⟩; have ck6 : w6.cell? ⟨b, o + k, none⟩ = some (.int .i64 x) := (bb6.cell (p := ⟨b, o + k, none⟩) hb).trans d0; clear hg6 hb6 hat6))
      obtain ⟨g6, rfl, _⟩ := ho6.form (by omega)
      clear hy
      go_wp2_with fail
      go_roundw
      case rel => exact ⟨k + 1, g6, m + 2, c6, by omega, by have := HM.out; omega, by go_num, rfl, by rw [HS.out, HY.out]; exact ho6, bb6⟩
      case measure => simp [intOf]; omega
    · obtain rfl : k = n := by omega
      rw [List.take_of_length_le (by have := HL.out; omega)] at hO
      have mr := hO.rd
      have xr := r2.call (Nat.le_refl _) hB
      have br := below_call b2 hB
      have MIN := Lib.hid (moreL_in64 HIN.out)
      generalize moreL X = Y at *
      clear hO hB bsr r2 b2 HM
      go_wp2_with fail
      refine (lranges_c _ _ _ _ _ xr (by omega) HIN.out).mono ?_
      rintro e w3 ⟨A3, m3, c3, rfl, hm3, ho3, hb3⟩
      have b3 := below_call br hb3
      have x3 := xr.call (Nat.le_refl _) hb3
      have y3 := mr.call (Nat.le_refl _) hb3
      have q3 := ho3.rd
      clear br xr mr hb3 ho3
      go_wp2_with fail
      refine (rranges_c _ _ _ _ _ x3 (by omega) HIN.out).mono ?_
      rintro e w4 ⟨A4, m4, c4, rfl, hm4, ho4, hb4⟩
      have b4 := below_call b3 hb4
      have y4 := y3.call (Nat.le_refl _) hb4
      have q4 := ho4.rd
      have p4 := q3.call (Nat.le_refl _) hb4
      clear b3 x3 y3 hb4 ho4 q3
      go_wp2_with fail
      refine (same2_c _ _ _ _ _ _ _ _ _ p4 q4 (by omega) (by omega)).mono ?_
      rintro e w5 ⟨he, hb5⟩
      rw [decide_eq_true (by rfl)] at he
      subst he
      have b5 := below_call b4 hb5
      have y5 := y4.call (Nat.le_refl _) hb5
      clear b4 y4 hb5 p4 q4
      go_wp2_with fail
      refine (lranges_c _ _ _ _ _ y5 (by omega) MIN.out).mono ?_
      rintro e w6 ⟨A6, m6, c6, rfl, hm6, ho6, hb6⟩
      have b6 := below_call b5 hb6
      have y6 := y5.call (Nat.le_refl _) hb6
      have q6 := ho6.rd
      clear b5 y5 hb6 ho6
      go_wp2_with fail
      refine (rranges_c _ _ _ _ _ y6 (by omega) MIN.out).mono ?_
      rintro e w7 ⟨A7, m7, c7, rfl, hm7, ho7, hb7⟩
      have b7 := below_call b6 hb7
      have q7 := ho7.rd
      have p7 := q6.call (Nat.le_refl _) hb7
      clear b6 y6 hb7 ho7 q6
      go_wp2_with fail
      refine (same2_c _ _ _ _ _ _ _ _ _ p7 q7 (by omega) (by omega)).mono ?_
      rintro e w8 ⟨he, hb8⟩
      rw [decide_eq_true (by rfl)] at he
      subst he
      have b8 := below_call b7 hb8
      go_wp2_with fail
      go_ret
      exact ⟨rfl, b8⟩

end Go.Proofs.Ytladdpfngoldcaa
