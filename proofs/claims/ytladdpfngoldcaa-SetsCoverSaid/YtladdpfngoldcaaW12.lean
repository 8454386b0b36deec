/- Walks: the document's examples. -/
import Derived.Test.YtladdpfngoldcaaW11
namespace Go.Proofs.Ytladdpfngoldcaa
open Go.RowKit Go.Maps

theorem cell_new (w : World) (cs : Array Value) (t : TypeId) (i : Nat) : (w.alloc (.cells cs t)).cell? ⟨w.heap.size, i, none⟩ = cs[i]? := (Bk.new w t cs).cell i
theorem rd2_lit (w : World) (l : List (Int × Int)) (cs : Array Value) (n : Nat) (hn : l.length = n) (h : cs = (prs l).toArray) : Rd2 (w.alloc (.cells cs 30)) (w.alloc (.cells cs 30)).heap.size (some ⟨w.heap.size, 0, none⟩) n l := by
  subst h
  refine ⟨hn, fun _ => ⟨w.heap.size, 0, rfl, by simp, fun i p hp => ?_⟩⟩
  obtain ⟨h1, h2⟩ := prs_at hp
  rw [Nat.zero_add, cell_new, cell_new]
  exact ⟨by simpa using h1, by simpa using h2⟩
theorem rd_lit_at (w : World) (g : Nat) (hg : w.heap.size = g) (xs : List Int) (cs : Array Value) (n : Nat) (hn : xs.length = n) (h : cs = (xs.map (Value.int .i64)).toArray) : Rd (w.alloc (.cells cs 3)) (w.alloc (.cells cs 3)).heap.size (some ⟨g, 0, none⟩) n xs := by
  subst hg; exact rd_lit w xs cs n hn h
theorem rds_lit2 (w : World) (g : Nat) (hg : w.heap.size = g) (A1 A2 : Option Addr) (n1 c1 n2 c2 : Nat) (x1 x2 : List Int) (h1 : Rd w w.heap.size A1 n1 x1) (h2 : Rd w w.heap.size A2 n2 x2) (k1 : n1 ≤ c1) (k2 : n2 ≤ c2) (l1 : c1 ≤ 9223372036854775807) (l2 : c2 ≤ 9223372036854775807) :
    Rds (w.alloc (.cells #[.slice A1 n1 c1, .slice A2 n2 c2] 22)) (w.alloc (.cells #[.slice A1 n1 c1, .slice A2 n2 c2] 22)).heap.size (some ⟨g, 0, none⟩) 2 [x1, x2] := by
  subst hg
  refine ⟨rfl, fun _ => ⟨w.heap.size, 0, rfl, by simp, fun i xs hx => ?_⟩⟩
  rw [Nat.zero_add, cell_new]
  match i with
  | 0 => injection hx with hx; subst hx; exact ⟨A1, n1, c1, rfl, h1.lit _, k1, l1⟩
  | 1 => injection hx with hx; subst hx; exact ⟨A2, n2, c2, rfl, h2.lit _, k2, l2⟩
  | i + 2 => simp at hx

theorem ex_of : ofL [3, 1, 2, 3] = [1, 2, 3] := srt_unique (ofL_srt _) (by unfold Srt; decide) (fun x => by rw [ofL_mem]; simp; omega)
theorem ex_ranges : rgs (ofL [1, 2, 3, 7]) = [(1, 3), (7, 7)] := by
  rw [ofL_of_srt (show Srt [1, 2, 3, 7] by unfold Srt; decide)]; decide
theorem ex_part : partL [[1, 2], [2, 3]] 5 = [0, 1, 2, 3, 0] := by decide

set_option maxHeartbeats 1000000 in
theorem lshown_c (w : World) : Calls Try.prog 13 #[] w fun e w' => e = .returned (.bool true) ∧ Below w.heap.size w w' := by
  have b0 := Below.refl w.heap.size w
  go_enter Try.func13, Try.ntmps13
  go_wp2_with fail
  refine (of_c _ 4 _ [3, 1, 2, 3] _ (rd_lit _ _ _ _ rfl (by rfl)) (by omega)).mono ?_
  rintro e w1 ⟨A1, m1, c1, rfl, hm1, ho1, hb1⟩
  rw [ex_of] at ho1
  obtain rfl : m1 = 3 := ho1.len.symm
  have b1 := below_call (below_lit _ _ b0 _) hb1
  have r1 := ho1.rd
  clear ho1 hb1 b0 hm1
  go_wp2_with fail
  refine (same_b _ _ 3 3 _ _ [1, 2, 3] [1, 2, 3] _ (r1.lit _) (rd_lit _ _ _ _ rfl (by rfl)) (by omega) (by omega)).mono ?_
  rintro e w2 ⟨rfl, hb2⟩
  have b2 := below_call (below_lit _ _ b1 _) hb2
  clear hb2 b1 r1
  go_wp2_with fail
  refine (lranges_c _ 4 _ [1, 2, 3, 7] _ (rd_lit _ _ _ _ rfl (by rfl)) (by omega) (by unfold In64; decide)).mono ?_
  rintro e w3 ⟨A3, m3, c3, rfl, hm3, ho3, hb3⟩
  rw [ex_ranges] at ho3
  obtain rfl : m3 = 2 := ho3.len.symm
  have b3 := below_call (below_lit _ _ b2 _) hb3
  have r3 := ho3.rd
  clear ho3 hb3 b2 hm3
  go_wp2_with fail
  refine (same2_c _ _ 2 2 _ _ [(1, 3), (7, 7)] [(1, 3), (7, 7)] _ (r3.lit _) (rd2_lit _ _ _ _ rfl (by rfl)) (by omega) (by omega)).mono ?_
  rintro e w4 ⟨rfl, hb4⟩
  have b4 := below_call (below_lit _ _ b3 _) hb4
  clear hb4 b3 r3
  go_wp2_with fail
  have q1 := (rd_lit w4 [1, 2] #[.int .i64 1, .int .i64 2] 2 rfl rfl).lit (.cells #[.int .i64 2, .int .i64 3] 3)
  have q2 := rd_lit_at (w4.alloc (.cells #[.int .i64 1, .int .i64 2] 3)) (w4.heap.size + 1) (by simp) [2, 3] #[.int .i64 2, .int .i64 3] 2 rfl rfl
  have q3 := rds_lit2 _ (w4.heap.size + 1 + 1) (by simp) _ _ 2 2 2 2 _ _ q1 q2 (by omega) (by omega) (by omega) (by omega)
  refine (part_c 5 _ _ _ _ _ q3 (by omega) (by omega) (by omega) (by decide)).mono ?_
  rintro e w5 ⟨A5, c5, rfl, ho5, hb5⟩
  rw [ex_part] at ho5
  have b5 := below_call (below_lit _ _ (below_lit _ _ (below_lit _ _ b4 _) _) _) hb5
  have r5 := ho5.rd
  clear ho5 hb5 b4 q1 q2 q3
  go_wp2_with fail
  refine (same_b _ _ 5 5 _ _ [0, 1, 2, 3, 0] [0, 1, 2, 3, 0] _ (r5.lit _) (rd_lit _ _ _ _ rfl (by rfl)) (by omega) (by omega)).mono ?_
  rintro e w6 ⟨rfl, hb6⟩
  have b6 := below_call (below_lit _ _ b5 _) hb6
  go_wp2
  go_ret
  exact ⟨rfl, b6⟩

end Go.Proofs.Ytladdpfngoldcaa
