/- Walks: shown: a group's places put behind the order. -/
import Derived.Test.YtdacfcfgikllpaaW10
import Derived.Test.YtdacfcfgikllpaaSpec3
namespace Go.Proofs.Ytdacfcfgikllpaa
open Go.RowKit

set_option maxHeartbeats 400000 in
theorem ins_empty (A : Option Addr) (C : Nat) (cv : Value) (w : World) :
    Calls Try.prog 37 #[.slice A 0 C, .int .i64 0, .int .i64 0, cv] w fun e w' => e = .returned (.tuple #[]) ∧ w = w' := by
  go_enter Try.func37, Try.ntmps37
  go_wp2
  refine wp_loop_rounds 1 ?_
  rw [rounds_succ]
  go_wp2
  go_end0
  exact ⟨rfl, rfl⟩
set_option maxHeartbeats 400000 in
theorem stable_empty (A : Option Addr) (C : Nat) (cv : Value) (w : World) :
    Calls Try.prog 35 #[.slice A 0 C, .int .i64 0, cv] w fun e w' => e = .returned (.tuple #[]) ∧ w = w' := by
  go_enter Try.func35, Try.ntmps35
  go_wp2
  refine wp_loop_rounds 1 ?_
  rw [rounds_succ]
  go_wp2_with (go_at_call 37; refine (ins_empty _ _ _ _).mono ?_; rintro e w1 ⟨rfl, rfl⟩)
  refine wp_loop_rounds 1 ?_
  rw [rounds_succ]
  go_wp2
  go_end0
  exact ⟨rfl, rfl⟩
set_option maxHeartbeats 400000 in
theorem sort_empty (A : Option Addr) (C : Nat) (cv : Value) (w : World) :
    Calls Try.prog 32 #[.slice A 0 C, cv] w fun e w' => e = .returned (.tuple #[]) ∧ w = w' := by
  go_enter Try.func32, Try.ntmps32
  go_wp2_with (go_at_call 35; refine (stable_empty _ _ _ _).mono ?_; rintro e w1 ⟨rfl, rfl⟩)
  go_end0
  exact ⟨rfl, rfl⟩

theorem grownBy_step {a b c : World} {row row' : Option Nat} (h : a.grownBy b row) (k : b.grownBy c row') (hr : ∀ i, row' = some i → row = some i ∨ a.heap.size ≤ i) : a.grownBy c row :=
  ⟨k.os.trans h.os, k.tape.trans h.tape, k.output.trans h.output, Nat.le_trans h.size k.size, fun i hi hne => by
    rw [k.block i (Nat.lt_of_lt_of_le hi h.size) (fun e => by
      rcases hr i e.symm with h1 | h1
      · exact hne h1.symm
      · omega)]
    exact h.block i hi hne⟩

theorem ints_app (a b : List Nat) : ints (a ++ b) = ints a ++ ints b := by simp [ints]
theorem range'_snoc (a k : Nat) : List.range' a (k + 1) = List.range' a k ++ [a + k] := by rw [List.range'_concat]; simp

theorem sort_i (S : SP) (f0 : Nat → Nat) (w : World) (C g off L B1 : Nat) (hS : S.Ok) (h : S.St w f0) (hL : S.L ≤ 40) (hinc : Inc f0 0 S.L) (eg : S.g = g) (eo : S.z0.length = off) (eL : S.L = L) (eB : S.B1 = B1) :
    Calls Try.prog 32 #[.slice (some ⟨g, off, none⟩) L C, .func (.func 33) #[] #[.pointer (some ⟨B1, 0, none⟩)]] w fun e w' => e = .returned (.tuple #[]) ∧
      ∃ f', S.St w' f' ∧ Prm f0 f' 0 S.L ∧ Srt S.K f' 0 S.L ∧ w.grownBy w' (some S.g) := by
  subst eg; subst eo; subst eL; subst eB; exact sort_c S f0 w C hS h hL hinc
theorem ints_map (a L : Nat) : ints (List.range' a L) = (List.range L).map (fun i => ((a + i : Nat) : Int)) := by
  unfold ints; rw [range_shift, List.map_map]; rfl
theorem ints_of (f : Nat → Nat) (L : Nat) : ints ((List.range L).map f) = (List.range L).map (fun i => ((f i : Nat) : Int)) := by unfold ints; rw [List.map_map]; rfl
theorem inc_shift (a L : Nat) : Inc (fun i => a + i) 0 L := fun i j _ h _ => by dsimp only; omega

/-- The sort of a whole tail of the order. -/
theorem sort_tail (R : Option Addr) (n cr : Nat) (xs z0 : List Int) (g N c a L B1 base Bd C : Nat) (w : World) (hR : Rd w Bd R n xs) (hBg : Bd ≤ g) (hne : B1 ≠ g) (hb : w.cell? ⟨B1, 0, none⟩ = some (.slice R n cr))
    (hO : Ow w base (some ⟨g, 0, none⟩) N c (z0 ++ ints (List.range' a L))) (hn : n ≤ 100000) (hN : N ≤ 200000) (hL : L ≤ 40) (haL : a + L ≤ n) (off : Nat) (hoff : z0.length = off) :
    Calls Try.prog 32 #[.slice (some ⟨g, off, none⟩) L C, .func (.func 33) #[] #[.pointer (some ⟨B1, 0, none⟩)]] w fun e w' => e = .returned (.tuple #[]) ∧
      Ow w' base (some ⟨g, 0, none⟩) N c (z0 ++ ints (ssort (Kc xs) (List.range' a L))) ∧ w.grownBy w' (some g) := by
  have hlen := hO.len
  simp [ints] at hlen
  refine (sort_i { base := base, g := g, N := N, c := c, L := L, B1 := B1, n := n, cc := cr, Bd := Bd, A := R, z0 := z0, xs := xs } (fun i => a + i) w C g off L B1 ⟨hlen, hBg, hne, by dsimp only; omega, by dsimp only; omega⟩ ⟨by rw [ints_map] at hO; exact hO, hb, hR, fun i hi => by dsimp only at *; omega⟩ hL (inc_shift a L) rfl hoff rfl rfl).mono ?_
  rintro e w' ⟨rfl, f', st, pr, sr, gr⟩
  refine ⟨rfl, ?_, gr⟩
  have h1 := st.own
  have h2 := ssort_of pr sr (inc_shift a L)
  dsimp only at h1 h2
  rw [← range_shift] at h2
  have e3 : (SP.mk base g N c L B1 n cr Bd R z0 xs).K = Kc xs := rfl
  rw [e3] at h2
  rw [← h2, ints_of]
  exact h1

set_option maxHeartbeats 4000000 in
theorem shown_c (R : Option Addr) (n cr : Nat) (xs zs : List Int) (g m c a b base Bd : Nat) (w : World) (hR : Rd w Bd R n xs) (hBd : Bd ≤ base) (hO : Ow w base (some ⟨g, 0, none⟩) m c zs) (hbase : base ≤ w.heap.size)
    (hn : n ≤ 100000) (hm : m ≤ 100000) (hab : a ≤ b) (hbn : b ≤ n) (h40 : b - a ≤ 40) :
    Calls Try.prog 28 #[.slice (some ⟨g, 0, none⟩) m c, .slice R n cr, .agg #[.int .i64 (a : Nat), .int .i64 (b : Nat)]] w fun e w' => ∃ g' c', e = .returned (.slice (some ⟨g', 0, none⟩) (m + (b - a)) c') ∧
      Ow w' base (some ⟨g', 0, none⟩) (m + (b - a)) c' (zs ++ ints (shownL xs a b)) ∧ (g' = g ∨ w.heap.size ≤ g') ∧ w.grownBy w' (some g) := by
  have HL := Lib.hid hR.len
  have hgl := hO.lt g 0 none rfl
  obtain ⟨w2, hw2⟩ : ∃ w2, ((w.alloc (.cells #[.slice R n cr] 25)).alloc (.cells #[.int .i64 (a : Nat), .int .i64 (b : Nat)] 39)) = w2 := ⟨_, rfl⟩
  have hs2 : w2.heap.size = w.heap.size + 2 := by rw [← hw2]; simp
  have hB2 : Below w.heap.size w w2 := by rw [← hw2]; exact ((Below.refl _ _).alloc (Nat.le_refl _) _).alloc (by simp) _
  have cB : w2.cell? ⟨w.heap.size, 0, none⟩ = some (.slice R n cr) := by rw [← hw2]; simp
  have cG0 : w2.cell? ⟨w.heap.size + 1, 0, none⟩ = some (.int .i64 (a : Nat)) := by rw [← hw2]; simp
  have cG1 : w2.cell? ⟨w.heap.size + 1, 1, none⟩ = some (.int .i64 (b : Nat)) := by rw [← hw2]; simp
  have hO2 : Ow w2 base (some ⟨g, 0, none⟩) m c zs := hO.below hB2 (Nat.le_refl _)
  have hR2 : Rd w2 Bd R n xs := hR.below (hB2.mono (by omega))
  have HS2 := Lib.hid hs2; have z2 : w.heap.size + 1 < w2.heap.size := by omega
  clear hs2
  go_enter Try.func28, Try.ntmps28
  go_wp2
  clear hw2
  have keep : ∀ wr : World, w2.grownBy wr (some g) → wr.cell? ⟨w.heap.size, 0, none⟩ = some (.slice R n cr) ∧ wr.cell? ⟨w.heap.size + 1, 0, none⟩ = some (.int .i64 (a : Nat)) ∧ wr.cell? ⟨w.heap.size + 1, 1, none⟩ = some (.int .i64 (b : Nat)) ∧ Rd wr Bd R n xs := fun wr hg =>
    ⟨hg.cell cB (by simp; omega), hg.cell cG0 (by simp; omega), hg.cell cG1 (by simp; omega), hR2.keep fun p hp => World.cell?_of_block (hg.block p.block (by omega) (by simp; omega))⟩
  have KEEP := Lib.hid keep; clear keep cB cG0 cG1
  go_loopw [0, 8] (fun v t wr => ∃ (k g' c' : Nat), k ≤ b - a ∧ v = .slice (some ⟨g', 0, none⟩) (m + k) c' ∧ t = .int .i64 ((a + k : Nat) : Int) ∧ Ow wr base (some ⟨g', 0, none⟩) (m + k) c' (zs ++ ints (List.range' a k)) ∧ (g' = g ∨ w2.heap.size ≤ g') ∧ w2.grownBy wr (some g)) (fun _ t _ => b - (intOf t).toNat)
  case atStart => exact ⟨0, g, c, by omega, rfl, by go_num, by simpa [ints] using hO2, .inl rfl, World.grownBy.refl _ _⟩
  case round =>
    obtain ⟨k, g', c', hk, rfl, rfl, hOr, hg', hgr⟩ := hrel
    obtain ⟨cB, cG0, cG1, hRr⟩ := KEEP.out wr hgr
    have hszr := hgr.size
    by_cases hlt : k < b - a
    · have hbs : base ≤ wr.heap.size := by omega
      go_wp2_with (at_builtin; refine app1 rfl _ _ rfl wr base _ _ _ _ _ (by rfl) (by rfl) hOr (by omega) hbs ?_; intro g2 c2 w3 ho3 hg3 hb3 hat3 hcap3)
      go_roundw
      case rel =>
        refine ⟨k + 1, g2, c2, by omega, rfl, by go_num, ?_, ?_, grownBy_step hgr hg3 (fun i hi => ?_)⟩
        · rw [range'_snoc, ints_app, ← List.append_assoc]; exact ho3
        · rcases hat3 with h | h
          · simp at h; omega
          · exact .inr (by omega)
        · simp at hi; subst hi
          rcases hg' with rfl | h
          · exact .inl rfl
          · exact .inr h
      case measure => simp [intOf]; omega
    · have hzl := hO.len
      obtain rfl : k = b - a := by omega
      have hcap := hOr.cap
      have hg2 := hOr.lt g' 0 none rfl
      have hgB : w.heap.size ≠ g' := by omega
      have hwg : w.grownBy wr (some g) := ⟨hgr.os.trans hB2.os, hgr.tape.trans hB2.tape, hgr.output.trans hB2.output, by omega, fun i hi hne => (hgr.block i (by omega) hne).trans (hB2.block i hi)⟩
      have hgo : g' = g ∨ w.heap.size ≤ g' := by omega
      have HW := Lib.hid hwg; have HZ := Lib.hid hzl; clear hwg hzl
      by_cases hab2 : a = b
      · subst hab2
        have hsl : shownL xs a a = [] := by unfold shownL; rw [if_neg (by omega)]; simp [ssort]
        have HSL := Lib.hid hsl
        simp only [Nat.sub_self, Nat.add_zero, List.range'_zero, ints, List.map_nil, List.append_nil] at hOr hcap
        have HOr := Lib.hid hOr
        clear hsl
        have fin : ∀ (wx : World), wx = wr → ∃ gg cc, Ending.returned (Value.slice (some ⟨g', 0, none⟩) m c') = .returned (.slice (some ⟨gg, 0, none⟩) (m + (a - a)) cc) ∧ Ow wx base (some ⟨gg, 0, none⟩) (m + (a - a)) cc (zs ++ ints (shownL xs a a)) ∧ (gg = g ∨ w.heap.size ≤ gg) ∧ w.grownBy wx (some g) := by
          rintro wx rfl
          refine ⟨g', c', by rw [Nat.sub_self, Nat.add_zero], ?_, hgo, HW.out⟩
          rw [HSL.out, Nat.sub_self, Nat.add_zero]; simpa [ints] using HOr.out
        have FIN := Lib.hid fin; clear fin hOr HOr hO hO2
        by_cases hc : c' = m
        · subst hc
          go_wp2_with (go_at_call 32; refine (sort_empty _ _ _ _).mono ?_; rintro e w5 ⟨rfl, rfl⟩)
          go_ret
          exact FIN.out _ rfl
        · go_wp2_with (go_at_call 32; refine (sort_empty _ _ _ _).mono ?_; rintro e w5 ⟨rfl, rfl⟩)
          go_ret
          exact FIN.out _ rfl
      · obtain ⟨x, hx⟩ := getD_some xs a (by have := HL.out; omega)
        obtain ⟨br, or, rfl, hbr, hcr⟩ := hRr.pos (by omega)
        have cx := hcr a x hx
        have hgx := getD_of hx
        clear hcr hx
        have hcm : ¬ c' = m := by omega
        have ha0 : (0 : Int) ≤ (a : Int) := by omega
        have han : (a : Int) < (n : Int) := by omega
        have hpos : decide (0 < b - a) = true := by simp; omega
        have kb := kind_bd x
        by_cases h3 : kind x = 3
        · have hsl : shownL xs a b = ssort (Kc xs) (List.range' a (b - a)) := by unfold shownL; rw [if_neg (by rw [hgx, h3]; simp)]
          have HSL := Lib.hid hsl
          have st := fun C => sort_tail (some ⟨br, or, none⟩) n cr xs zs g' (m + (b - a)) c' a (b - a) w.heap.size base Bd C wr hRr (by omega) hgB cB hOr hn (by omega) h40 (by omega) m HZ.out
          have ST := Lib.hid st
          clear hsl hgx st hOr hRr
          go_wp2_with (first | (go_at_call 12; refine (kind_c _ _).mono ?_; rintro e w' ⟨rfl, rfl⟩) | (go_at_call 32; (with_reducible refine (ST.out _).mono ?_); rintro e w5 ⟨rfl, ho5, hg5⟩))
          go_ret
          refine ⟨g', c', rfl, ?_, hgo, grownBy_step HW.out hg5 (fun i hi => ?_)⟩
          · rw [HSL.out]; exact ho5
          · cases hi
            rcases hgo with h | h
            · exact .inl (by rw [h])
            · exact .inr h
        · have t3 : (kind x != 3) = true := by rw [bne_iff_ne]; exact h3
          have hsl : shownL xs a b = a :: ssort (Kc xs) (List.range' (a + 1) (b - a - 1)) := by unfold shownL; rw [if_pos ⟨by omega, by rw [hgx]; exact h3⟩]
          have HSL := Lib.hid hsl
          have hspl : zs ++ ints (List.range' a (b - a)) = (zs ++ [(a : Int)]) ++ ints (List.range' (a + 1) (b - a - 1)) := by
            obtain ⟨L, hL⟩ : ∃ L, b - a = L + 1 := ⟨b - a - 1, by omega⟩
            rw [hL, List.range'_succ]; simp [ints]
          have hO3 := hOr
          rw [hspl] at hO3
          have st := fun C (h : 1 < b - a) => sort_tail (some ⟨br, or, none⟩) n cr xs (zs ++ [(a : Int)]) g' (m + (b - a)) c' (a + 1) (b - a - 1) w.heap.size base Bd C wr hRr (by omega) hgB cB hO3 hn (by omega) (by omega) (by omega) (m + 1) (by rw [List.length_append, HZ.out]; rfl)
          have ST := Lib.hid st; have HO3 := Lib.hid hO3
          clear hsl hgx st hOr hRr hspl hO3 hO hO2
          by_cases h1 : b - a = 1
          · have h1' : b - a - 1 = 0 := by omega
            have H1 := Lib.hid h1; have H1' := Lib.hid h1'
            have fin : ∀ (wx : World), wx = wr → ∃ gg cc, Ending.returned (Value.slice (some ⟨g', 0, none⟩) (m + (b - a)) c') = .returned (.slice (some ⟨gg, 0, none⟩) (m + (b - a)) cc) ∧ Ow wx base (some ⟨gg, 0, none⟩) (m + (b - a)) cc (zs ++ ints (shownL xs a b)) ∧ (gg = g ∨ w.heap.size ≤ gg) ∧ w.grownBy wx (some g) := by
              rintro wx rfl
              refine ⟨g', c', rfl, ?_, hgo, HW.out⟩
              have := HO3.out
              rw [HSL.out]
              rw [H1'.out] at this ⊢
              simpa [ints, ssort] using this
            have FIN := Lib.hid fin; clear fin h1'
            obtain rfl : b = a + 1 := by omega
            by_cases hc : c' - m = 1
            all_goals
              go_wp2_with (first | (go_at_call 12; refine (kind_c _ _).mono ?_; rintro e w' ⟨rfl, rfl⟩) | (go_at_call 32; refine (sort_empty _ _ _ _).mono ?_; rintro e w5 ⟨rfl, rfl⟩))
              go_ret
              simpa using FIN.out _ rfl
          · have hc : ¬ c' - m = 1 := by omega
            go_wp2_with (first | (go_at_call 12; refine (kind_c _ _).mono ?_; rintro e w' ⟨rfl, rfl⟩) | (go_at_call 32; (with_reducible refine (ST.out _ (by omega)).mono ?_); rintro e w5 ⟨rfl, ho5, hg5⟩))
            go_ret
            refine ⟨g', c', rfl, ?_, hgo, grownBy_step HW.out hg5 (fun i hi => ?_)⟩
            · rw [HSL.out]; simpa [ints] using ho5
            · cases hi
              rcases hgo with h | h
              · exact .inl (by rw [h])
              · exact .inr h

end Go.Proofs.Ytdacfcfgikllpaa
