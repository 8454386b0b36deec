/- Walks: the stable sort of at most 40 places. -/
import Derived.Test.YtdacfcfgikllpaaW9
namespace Go.Proofs.Ytdacfcfgikllpaa
open Go.RowKit

theorem ins_i (S : SP) (f0 : Nat → Nat) (w : World) (C : Nat) (x y : Int) (a b : Nat) (hx : x = a) (hy : y = b) (hS : S.Ok) (h : S.St w f0) (hab : a ≤ b) (hbL : b ≤ S.L) (hinc : Inc f0 a b) :
    Calls Try.prog 37 #[.slice (some ⟨S.g, S.z0.length, none⟩) S.L C, .int .i64 x, .int .i64 y, .func (.func 33) #[] #[.pointer (some ⟨S.B1, 0, none⟩)]] w fun e w' => e = .returned (.tuple #[]) ∧
      ∃ f', S.St w' f' ∧ Prm f0 f' a b ∧ Srt S.K f' a b ∧ w.grownBy w' (some S.g) := by
  subst hx; subst hy; exact ins_c S f0 w C a b hS h hab hbL hinc
theorem sym_i (S : SP) (f0 : Nat → Nat) (w : World) (C : Nat) (x y z : Int) (a m b : Nat) (hx : x = a) (hy : y = m) (hz : z = b) (hS : S.Ok) (h : S.St w f0) (h1 : a < m) (h2 : m < b) (hbL : b ≤ S.L)
    (hl : Srt S.K f0 a m) (hr : Srt S.K f0 m b) (hp : Apart f0 a m b) :
    Calls Try.prog 38 #[.slice (some ⟨S.g, S.z0.length, none⟩) S.L C, .int .i64 x, .int .i64 y, .int .i64 z, .func (.func 33) #[] #[.pointer (some ⟨S.B1, 0, none⟩)]] w fun e w' => e = .returned (.tuple #[]) ∧
      ∃ f', S.St w' f' ∧ Prm f0 f' a b ∧ Srt S.K f' a b ∧ w.grownBy w' (some S.g) := by
  subst hx; subst hy; subst hz; exact sym_c S hS (b - a) f0 w C a m b h h1 h2 hbL (Nat.le_refl _) hl hr hp

theorem Inc.none {f : Nat → Nat} {a b : Nat} (h : b ≤ a) : Inc f a b := fun i j _ _ _ => by omega
theorem Inc.sub {f : Nat → Nat} {a b a' b' : Nat} (h : Inc f a b) (h1 : a ≤ a') (h2 : b' ≤ b) : Inc f a' b' := fun i j x y z => h i j (by omega) y (by omega)
theorem Inc.congr {f g : Nat → Nat} {a b : Nat} (h : Inc f a b) (e : ∀ i, a ≤ i → i < b → g i = f i) : Inc g a b := fun i j x y z => by rw [e i x (by omega), e j (by omega) z]; exact h i j x y z
/-- Two blocks that were sorted apart. -/
theorem two_blocks {K : Nat → Int} {f0 f1 f2 : Nat → Nat} {m b : Nat} (hi : Inc f0 0 b) (hm : m ≤ b) (p1 : Prm f0 f1 0 m) (s1 : Srt K f1 0 m) (p2 : Prm f1 f2 m b) :
    Srt K f2 0 m ∧ Apart f2 0 m b ∧ Prm f0 f2 0 b := by
  refine ⟨s1.congr fun i _ h => p2.out (.inl h), fun i j a1 a2 a3 a4 => ?_, (p1.mono (Nat.le_refl _) hm).trans (p2.mono (by omega) (Nat.le_refl _))⟩
  rw [p2.out (.inl a2)]
  obtain ⟨i', b1, b2, e1⟩ := p1.2.1 i a1 a2
  obtain ⟨j', c1, c2, e2⟩ := p2.2.1 j a3 a4
  rw [e1, e2, p1.out (.inr c1)]
  exact hi i' j' b1 (by omega) c2

set_option maxHeartbeats 2000000 in
theorem stable_small (S : SP) (f0 : Nat → Nat) (w : World) (C : Nat) (hS : S.Ok) (h : S.St w f0) (hL : S.L < 20) (hinc : Inc f0 0 S.L) :
    Calls Try.prog 35 #[.slice (some ⟨S.g, S.z0.length, none⟩) S.L C, .int .i64 S.L, .func (.func 33) #[] #[.pointer (some ⟨S.B1, 0, none⟩)]] w fun e w' => e = .returned (.tuple #[]) ∧
      ∃ f', S.St w' f' ∧ Prm f0 f' 0 S.L ∧ Srt S.K f' 0 S.L ∧ w.grownBy w' (some S.g) := by
  have HI := Lib.hid hinc; clear hinc
  go_enter Try.func35, Try.ntmps35
  go_wp2
  refine wp_loop_rounds 1 ?_
  rw [rounds_succ]
  go_wp2_with (go_at_call 37; refine (ins_i S f0 _ _ _ _ 0 S.L rfl rfl hS h (by omega) (by omega) HI.out).mono ?_; rintro e w1 ⟨rfl, f1, st1, pr1, sr1, gr1⟩)
  refine wp_loop_rounds 1 ?_
  rw [rounds_succ]
  go_wp2
  go_end0
  exact ⟨rfl, f1, st1, pr1, sr1, gr1⟩

set_option maxHeartbeats 2000000 in
theorem stable_20 (S : SP) (f0 : Nat → Nat) (w : World) (C : Nat) (hS : S.Ok) (h : S.St w f0) (hL : S.L = 20) (hinc : Inc f0 0 S.L) :
    Calls Try.prog 35 #[.slice (some ⟨S.g, S.z0.length, none⟩) S.L C, .int .i64 S.L, .func (.func 33) #[] #[.pointer (some ⟨S.B1, 0, none⟩)]] w fun e w' => e = .returned (.tuple #[]) ∧
      ∃ f', S.St w' f' ∧ Prm f0 f' 0 S.L ∧ Srt S.K f' 0 S.L ∧ w.grownBy w' (some S.g) := by
  have HI := Lib.hid hinc; clear hinc
  have HL := Lib.hid hL
  have b1 : S.L ≤ 20 := by omega
  have b2 : 20 ≤ S.L := by omega
  clear hL
  go_enter Try.func35, Try.ntmps35
  go_wp2
  refine wp_loop_rounds 2 ?_
  rw [rounds_succ]
  go_wp2_with (go_at_call 37; (with_reducible refine (ins_i S f0 _ _ 0 20 0 20 rfl rfl hS h (by omega) (by omega) (HI.out.sub (by omega) (by omega))).mono ?_); rintro e w1 ⟨rfl, f1, st1, pr1, sr1, gr1⟩)
  rw [rounds_succ]
  go_wp2_with (go_at_call 37; (with_reducible refine (ins_i S f1 _ _ 20 _ 20 S.L rfl rfl hS st1 (by omega) (by omega) (Inc.none (by omega))).mono ?_); rintro e w2 ⟨rfl, f2, st2, pr2, sr2, gr2⟩)
  refine wp_loop_rounds 1 ?_
  rw [rounds_succ]
  go_wp2
  go_end0
  have e2 : ∀ i, f2 i = f1 i := fun i => pr2.out (by omega)
  have e3 : f2 = f1 := funext e2
  rw [e3] at st2
  refine ⟨rfl, f1, st2, ?_, ?_, gr1.trans gr2⟩
  · rw [HL.out]; exact pr1
  · rw [HL.out]; exact sr1

set_option maxHeartbeats 2000000 in
theorem stable_mid (S : SP) (f0 : Nat → Nat) (w : World) (C : Nat) (hS : S.Ok) (h : S.St w f0) (hL : 20 < S.L) (hL2 : S.L < 40) (hinc : Inc f0 0 S.L) :
    Calls Try.prog 35 #[.slice (some ⟨S.g, S.z0.length, none⟩) S.L C, .int .i64 S.L, .func (.func 33) #[] #[.pointer (some ⟨S.B1, 0, none⟩)]] w fun e w' => e = .returned (.tuple #[]) ∧
      ∃ f', S.St w' f' ∧ Prm f0 f' 0 S.L ∧ Srt S.K f' 0 S.L ∧ w.grownBy w' (some S.g) := by
  have HI := Lib.hid hinc; clear hinc
  go_enter Try.func35, Try.ntmps35
  go_wp2
  refine wp_loop_rounds 2 ?_
  rw [rounds_succ]
  go_wp2_with (go_at_call 37; (with_reducible refine (ins_i S f0 _ _ 0 20 0 20 rfl rfl hS h (by omega) (by omega) (HI.out.sub (by omega) (by omega))).mono ?_); rintro e w1 ⟨rfl, f1, st1, pr1, sr1, gr1⟩)
  rw [rounds_succ]
  have hi2 : Inc f1 20 S.L := (HI.out.sub (by omega) (Nat.le_refl _)).congr fun i h1 _ => pr1.out (.inr h1)
  have HI2 := Lib.hid hi2; clear hi2
  go_wp2_with (go_at_call 37; (with_reducible refine (ins_i S f1 _ _ 20 _ 20 S.L rfl rfl hS st1 (by omega) (by omega) HI2.out).mono ?_); rintro e w2 ⟨rfl, f2, st2, pr2, sr2, gr2⟩)
  have tb := two_blocks HI.out (by omega) pr1 sr1 pr2
  have TB := Lib.hid tb; clear tb
  have HP1 := Lib.hid pr1; have HS1 := Lib.hid sr1; have HP2 := Lib.hid pr2; have HS2 := Lib.hid sr2
  clear pr1 sr1 pr2 sr2
  refine wp_loop_rounds 2 ?_
  rw [rounds_succ]
  go_wp2
  refine wp_loop_rounds 1 ?_
  rw [rounds_succ]
  go_wp2_with (go_at_call 38; (with_reducible refine (sym_i S f2 _ _ 0 20 _ 0 20 S.L rfl rfl rfl hS st2 (by omega) hL (by omega) TB.out.1 HS2.out TB.out.2.1).mono ?_); rintro e w3 ⟨rfl, f3, st3, pr3, sr3, gr3⟩)
  rw [rounds_succ]
  go_wp2
  go_end0
  exact ⟨rfl, f3, st3, TB.out.2.2.trans pr3, sr3, (gr1.trans gr2).trans gr3⟩

set_option maxHeartbeats 2000000 in
theorem stable_40 (S : SP) (f0 : Nat → Nat) (w : World) (C : Nat) (hS : S.Ok) (h : S.St w f0) (hL : S.L = 40) (hinc : Inc f0 0 S.L) :
    Calls Try.prog 35 #[.slice (some ⟨S.g, S.z0.length, none⟩) S.L C, .int .i64 S.L, .func (.func 33) #[] #[.pointer (some ⟨S.B1, 0, none⟩)]] w fun e w' => e = .returned (.tuple #[]) ∧
      ∃ f', S.St w' f' ∧ Prm f0 f' 0 S.L ∧ Srt S.K f' 0 S.L ∧ w.grownBy w' (some S.g) := by
  have HI := Lib.hid hinc; clear hinc
  have HL := Lib.hid hL
  have b1 : S.L ≤ 40 := by omega
  have b2 : 40 ≤ S.L := by omega
  clear hL
  go_enter Try.func35, Try.ntmps35
  go_wp2
  refine wp_loop_rounds 3 ?_
  rw [rounds_succ]
  go_wp2_with (go_at_call 37; (with_reducible refine (ins_i S f0 _ _ 0 20 0 20 rfl rfl hS h (by omega) (by omega) (HI.out.sub (by omega) (by omega))).mono ?_); rintro e w1 ⟨rfl, f1, st1, pr1, sr1, gr1⟩)
  rw [rounds_succ]
  have hi2 : Inc f1 20 40 := (HI.out.sub (by omega) (by omega)).congr fun i h1 _ => pr1.out (.inr h1)
  have HI2 := Lib.hid hi2; clear hi2
  go_wp2_with (go_at_call 37; (with_reducible refine (ins_i S f1 _ _ 20 40 20 40 rfl rfl hS st1 (by omega) (by omega) HI2.out).mono ?_); rintro e w2 ⟨rfl, f2, st2, pr2, sr2, gr2⟩)
  rw [rounds_succ]
  have tb := two_blocks (HI.out.sub (Nat.le_refl _) (by omega)) (by omega) pr1 sr1 pr2
  have TB := Lib.hid tb; clear tb
  have HP1 := Lib.hid pr1; have HS1 := Lib.hid sr1; have HP2 := Lib.hid pr2; have HS2 := Lib.hid sr2
  clear pr1 sr1 pr2 sr2
  go_wp2_with (go_at_call 37; (with_reducible refine (ins_i S f2 _ _ 40 _ 40 S.L rfl rfl hS st2 (by omega) (by omega) (Inc.none (by omega))).mono ?_); rintro e w3 ⟨rfl, f3, st3, pr3, sr3, gr3⟩)
  have e3 : f3 = f2 := funext fun i => pr3.out (by omega)
  subst e3
  clear pr3 sr3
  refine wp_loop_rounds 2 ?_
  rw [rounds_succ]
  go_wp2
  refine wp_loop_rounds 2 ?_
  rw [rounds_succ]
  go_wp2_with (go_at_call 38; (with_reducible refine (sym_i S f3 _ _ 0 20 40 0 20 40 rfl rfl rfl hS st3 (by omega) (by omega) (by omega) TB.out.1 HS2.out TB.out.2.1).mono ?_); rintro e w4 ⟨rfl, f4, st4, pr4, sr4, gr4⟩)
  rw [rounds_succ]
  go_wp2
  rw [rounds_succ]
  go_wp2
  go_end0
  refine ⟨rfl, f4, st4, ?_, ?_, ((gr1.trans gr2).trans gr3).trans gr4⟩
  · rw [HL.out]; exact TB.out.2.2.trans pr4
  · rw [HL.out]; exact sr4

theorem stable_c (S : SP) (f0 : Nat → Nat) (w : World) (C : Nat) (hS : S.Ok) (h : S.St w f0) (hL : S.L ≤ 40) (hinc : Inc f0 0 S.L) :
    Calls Try.prog 35 #[.slice (some ⟨S.g, S.z0.length, none⟩) S.L C, .int .i64 S.L, .func (.func 33) #[] #[.pointer (some ⟨S.B1, 0, none⟩)]] w fun e w' => e = .returned (.tuple #[]) ∧
      ∃ f', S.St w' f' ∧ Prm f0 f' 0 S.L ∧ Srt S.K f' 0 S.L ∧ w.grownBy w' (some S.g) := by
  by_cases c1 : S.L < 20
  · exact stable_small S f0 w C hS h c1 hinc
  · by_cases c2 : S.L = 20
    · exact stable_20 S f0 w C hS h c2 hinc
    · by_cases c3 : S.L < 40
      · exact stable_mid S f0 w C hS h (by omega) c3 hinc
      · exact stable_40 S f0 w C hS h (by omega) hinc

set_option maxHeartbeats 400000 in
theorem sort_c (S : SP) (f0 : Nat → Nat) (w : World) (C : Nat) (hS : S.Ok) (h : S.St w f0) (hL : S.L ≤ 40) (hinc : Inc f0 0 S.L) :
    Calls Try.prog 32 #[.slice (some ⟨S.g, S.z0.length, none⟩) S.L C, .func (.func 33) #[] #[.pointer (some ⟨S.B1, 0, none⟩)]] w fun e w' => e = .returned (.tuple #[]) ∧
      ∃ f', S.St w' f' ∧ Prm f0 f' 0 S.L ∧ Srt S.K f' 0 S.L ∧ w.grownBy w' (some S.g) := by
  have HI := Lib.hid hinc; clear hinc
  go_enter Try.func32, Try.ntmps32
  go_wp2_with (go_at_call 35; refine (stable_c S f0 _ _ hS h hL HI.out).mono ?_; rintro e w1 ⟨rfl, hx⟩)
  go_end0
  exact ⟨rfl, hx⟩

end Go.Proofs.Ytdacfcfgikllpaa
