/- Walks: ScriptMarks. -/
import Derived.Test.YtdacfcfgikllpaaW25
namespace Go.Proofs.Ytdacfcfgikllpaa
open Go.RowKit
attribute [local go_sem ↓] Go.wp_at_zero Go.wp_at_succ

theorem same_t (A B : Option Addr) (n m c d : Nat) (xs : List Int) (w : World) (hA : Rd w w.heap.size A n xs) (hB : Rd w w.heap.size B m xs) (hn : n ≤ 1000000000) (hm : m ≤ 1000000000) :
    Calls Try.prog 17 #[.slice A n c, .slice B m d] w fun e w' => e = .returned (.bool true) ∧ Below w.heap.size w w' :=
  (same_b A B n m c d xs xs w hA hB hn hm).mono fun _ _ ⟨he, hb⟩ => ⟨by rw [he, decide_eq_true rfl], hb⟩
theorem below_drew {B : Nat} {a w : World} (h : Below B a w) : Below B a w.drew := ⟨h.os, h.tape, h.output, h.size, h.block⟩

set_option maxRecDepth 100000 in
set_option maxHeartbeats 4000000 in
theorem scriptMarks_walk (a0 : Option Addr) (len0 cap0 : Nat) (z0 : List Int) (a1 a2 : Int) (w : World) (w0 : IsRow .i64 w a0 len0 cap0 z0) (_w1 : (Lit.int .i64 a1).wf = true) (_w2 : (Lit.int .i64 a2).wf = true) :
    Calls Try.prog 7 #[.slice a0 len0 cap0, .int .i64 a1, .int .i64 a2] w fun e w' => e = .returned (.bool true) ∧ Below w.heap.size w w' := by
  obtain ⟨r0, hlc, hcm⟩ := w0.rd
  clear w0
  go_enter Try.func7, Try.ntmps7
  go_wp2_with fail
  refine (lshown_c _).mono ?_
  rintro e w1 ⟨rfl, b1⟩
  have r1 := r0.call (Nat.le_refl _) b1
  clear r0
  go_wp2_with fail
  refine (cut_c _ _ _ _ _ r1 hlc hcm).mono ?_
  rintro e w2 ⟨A, c, rfl, ho, hb2⟩
  have b2 := below_call b1 hb2
  have hn : min len0 40 ≤ 40 := by omega
  generalize (z0.take len0).take 40 = xs at *
  generalize min len0 40 = n at *
  have hbs2 := hb2.size
  have hcap := ho.cap
  have r2 := ho.rd
  have hA0 : A = none → c = 0 := by
    intro e; subst e
    rcases ho.2 with ⟨e, _⟩ | ⟨_, _, _, e, _⟩
    · injection e
    · cases e
  have hA1 : ∀ b o s, A = some ⟨b, o, s⟩ → o = 0 ∧ s = none := by
    intro b o s e; subst e
    rcases ho.2 with ⟨e, _⟩ | ⟨_, _, _, e, _⟩
    · cases e
    · injection e with e; injection e with e1; injection e1 with _ e2 e3; exact ⟨e2, e3⟩
  have hc9 : c ≤ 9223372036854775807 := by
    rcases ho.2 with ⟨e, h0⟩ | ⟨_, cap, _, e, _, _, _, hm, _⟩
    · injection e with _ _ e3; omega
    · injection e with e1 _ e3; subst e3; unfold maxLen at hm; omega
  have HA0 := Lib.hid hA0; have HA1 := Lib.hid hA1
  clear b1 r1 hb2 ho hA0 hA1
  go_upto_region 3 with fail
  go_cut [0] (fun s wx => ∃ (n : Nat) (xs : List Int), s = .slice A n c ∧ n ≤ 39 ∧ n ≤ c ∧ Rd w2 w2.heap.size A n xs ∧ wx = w2)
  case first =>
    rcases Nat.lt_or_ge 39 n with h | h
    · have hR := r2.take 39 (by omega)
      go_wp2_with fail
      go_meet
      exact ⟨_, _, rfl, by omega, by omega, hR, rfl⟩
    · go_wp2_with fail
      go_meet
      exact ⟨_, _, rfl, by omega, by omega, r2, rfl⟩
  clear r2 hcap hn
  obtain ⟨n, xs, rfl, hn, hnc, r2, rfl⟩ := hcut
  obtain ⟨w2, rfl⟩ : ∃ w2 : World, w2 = wc := ⟨_, rfl⟩
  obtain ⟨t, ht⟩ : ∃ t : Nat, (a2 % 65536) % ((n : Int) + 1) = (t : Int) := ⟨((a2 % 65536) % ((n : Int) + 1)).toNat, by
    have := Int.emod_nonneg (a2 % 65536) (show (n : Int) + 1 ≠ 0 by omega); omega⟩
  have htn : t ≤ n := by
    have := Int.emod_lt_of_pos (a2 % 65536) (show 0 < (n : Int) + 1 by omega); omega
  obtain ⟨y, hy⟩ : ∃ y, y = a2 % 65536 := ⟨_, rfl⟩
  have ha := and65535 a2
  rw [← hy] at ha ht
  have hy1 : 0 ≤ y := by omega
  have hy2 : y ≤ 65535 := by omega
  have HT := Lib.hid ht
  clear hy ht
  go_upto_region 4 with fail
  go_cut [2] (fun s wx => s = .int .i64 (t : Int) ∧ wx = w2)
  case first =>
    go_wp2_with fail
    go_meet
    exact ⟨by rw [HT.out], rfl⟩
  obtain ⟨rfl, rfl⟩ := hcut
  obtain ⟨w2, rfl⟩ : ∃ w2 : World, w2 = wc := ⟨_, rfl⟩
  clear HT ha hy1 hy2
  obtain ⟨y, hy⟩ : ∃ y, y = a1 % 256 := ⟨_, rfl⟩
  have ha := and255 a1
  rw [← hy] at ha
  have hy1 : 0 ≤ y := by omega
  have hy2 : y ≤ 255 := by omega
  have hk : kind (57856 + y) = 3 := by unfold kind; omega
  have HK := Lib.hid hk
  clear hy hk
  go_upto_region 5 with fail
  go_cut [8] (fun s wx => ∃ (A' : Option Addr) (c' : Nat), s = .slice A' (n + 1) c' ∧ Ow wx w2.heap.size A' (n + 1) c' (xs.take t ++ [57856 + y] ++ xs.drop t) ∧ Below w2.heap.size w2 wx)
  case first =>
    have r1 := r2.take t htn
    have E0 := Lib.hid (((own_empty w2).alloc (.cells #[.int .i64 (57856 + y)] 3))).drew
    have E1 := Lib.hid (own_empty w2).drew
    have e2 := ((own_empty (w2.alloc (.cells #[.int .i64 (57856 + y)] 3))).lower (base' := w2.heap.size) (by simp)).drew
    rw [show (w2.alloc (.cells #[.int .i64 (57856 + y)] 3)).heap.size = w2.heap.size + 1 by simp] at e2
    have E2 := Lib.hid e2
    have B0 := Lib.hid (below_drew ((((Below.refl w2.heap.size w2).alloc (Nat.le_refl _) (.cells #[] 3)).alloc (by simp) (.cells #[.int .i64 (57856 + y)] 3))))
    have B1 := Lib.hid (below_drew (((Below.refl w2.heap.size w2).alloc (Nat.le_refl _) (.cells #[] 3))))
    have B2 := Lib.hid (below_drew ((((Below.refl w2.heap.size w2).alloc (Nat.le_refl _) (.cells #[.int .i64 (57856 + y)] 3)).alloc (by simp) (.cells #[] 3))))
    have e0 := (rd_lit (w2.alloc (.cells #[] 3)) [57856 + y] #[.int .i64 (57856 + y)] 1 rfl rfl).drew
    rw [show (w2.alloc (.cells #[] 3)).heap.size = w2.heap.size + 1 by simp] at e0
    have R0 := Lib.hid e0
    clear e0 e2
    have R2 := Lib.hid ((rd_lit w2 [57856 + y] #[.int .i64 (57856 + y)] 1 rfl rfl).lit (.cells #[] 3)).drew
    have t0i : (0 : Int) ≤ (t : Int) := by omega
    have tci : (t : Int) ≤ (c : Int) := by omega
    have tni : (t : Int) ≤ (n : Int) := by omega
    have hwr : IntKind.i64.wrap (57856 + y) = 57856 + y := IntWalk.i64_in _ (by omega)
    cases A with
    | some ad =>
      obtain ⟨g, o, sp⟩ := ad
      obtain ⟨rfl, rfl⟩ := HA1.out g o sp rfl
      by_cases hct : c = t
      · subst hct
        obtain rfl : n = c := by omega
        have rd2 : Rd w2 w2.heap.size (some ⟨g, 0, none⟩) 0 (xs.drop n) := by
          have := r2.drop n htn (some ⟨g, 0, none⟩) (fun h => by omega)
          rw [Nat.sub_self] at this; exact this
        go_region_held3 (fun _ => True) (trivial) (first
          | (refine step_appS (by rfl) (.tmp 28) (.tmp 31) (by rfl) _ w2.heap.size _ _ _ [] _ _ _ w2.heap.size (xs.take n) (by rfl) (by rfl) (by first | exact E0.out | exact E1.out | exact E2.out) (by first | exact r1.below B0.out | exact r1.below B1.out | exact r1.below B2.out) (by omega) (by simp <;> omega) ?_; intro A5 c5 w5 ho5 hg5 hb5 hat5; rw [Nat.zero_add] at ho5 ⊢;
              (first | (have bb5 := B0.out.trans hb5; have rE := R0.out.grown hg5 (Nat.le_refl _) (by intro b o e; simp at e; simp; omega)) | (have bb5 := B2.out.trans hb5; have rE := R2.out.grown hg5 (Nat.le_refl _) (by intro b o e; simp at e; simp; omega)) | have bb5 := B1.out.trans hb5); have bs5 := bb5.size; clear hg5 hb5 hat5)
          | (refine step_appS (by rfl) (.tmp 32) (.tmp 36) (by rfl) _ w2.heap.size _ _ _ _ _ _ _ _ [57856 + y] (by rfl) (by rfl) (by first | exact ho5 | exact ho5.alloc _) (by first | exact rE | exact rd_lit w5 _ _ _ rfl (by rfl)) (by omega) (by first | omega | (simp; omega)) ?_; intro A6 c6 w6 ho6 hg6 hb6 hat6;
              (first | have bb6 := bb5.trans hb6 | have bb6 := (bb5.alloc bs5 _).trans hb6); have bs6 := bb6.size; clear hg6 hb6 hat6)
          | (refine step_appS (by rfl) (.tmp 37) (.tmp 40) (by rfl) w6 w2.heap.size _ _ _ _ _ _ _ w2.heap.size (xs.drop n) (by rfl) (by rfl) ho6 (rd2.below bb6) (by omega) bs6 ?_; intro A7 c7 w7 ho7 hg7 hb7 hat7; have bb7 := bb6.trans hb7; clear hg7 hb7 hat7))
        all_goals (go_wp2_with fail; go_meet; exact ⟨A7, c7, by simp, by simpa using ho7, bb7⟩)
      · have rd2 : Rd w2 w2.heap.size (some ⟨g, t, none⟩) (n - t) (xs.drop t) := r2.drop t htn _ (fun _ => by rw [Nat.zero_add])
        go_region_held3 (fun _ => True) (trivial) (first
          | (refine step_appS (by rfl) (.tmp 28) (.tmp 31) (by rfl) _ w2.heap.size _ _ _ [] _ _ _ w2.heap.size (xs.take t) (by rfl) (by rfl) (by first | exact E0.out | exact E1.out | exact E2.out) (by first | exact r1.below B0.out | exact r1.below B1.out | exact r1.below B2.out) (by omega) (by simp <;> omega) ?_; intro A5 c5 w5 ho5 hg5 hb5 hat5; rw [Nat.zero_add] at ho5 ⊢;
              (first | (have bb5 := B0.out.trans hb5; have rE := R0.out.grown hg5 (Nat.le_refl _) (by intro b o e; simp at e; simp; omega)) | (have bb5 := B2.out.trans hb5; have rE := R2.out.grown hg5 (Nat.le_refl _) (by intro b o e; simp at e; simp; omega)) | have bb5 := B1.out.trans hb5); have bs5 := bb5.size; clear hg5 hb5 hat5)
          | (refine step_appS (by rfl) (.tmp 32) (.tmp 36) (by rfl) _ w2.heap.size _ _ _ _ _ _ _ _ [57856 + y] (by rfl) (by rfl) (by first | exact ho5 | exact ho5.alloc _) (by first | exact rE | exact rd_lit w5 _ _ _ rfl (by rfl)) (by omega) (by first | omega | (simp; omega)) ?_; intro A6 c6 w6 ho6 hg6 hb6 hat6;
              (first | have bb6 := bb5.trans hb6 | have bb6 := (bb5.alloc bs5 _).trans hb6); have bs6 := bb6.size; clear hg6 hb6 hat6)
          | (refine step_appS (by rfl) (.tmp 37) (.tmp 40) (by rfl) w6 w2.heap.size _ _ _ _ _ _ _ w2.heap.size (xs.drop t) (by rfl) (by rfl) ho6 (rd2.below bb6) (by omega) bs6 ?_; intro A7 c7 w7 ho7 hg7 hb7 hat7; have bb7 := bb6.trans hb7; clear hg7 hb7 hat7))
        all_goals (go_wp2_with fail; go_meet; exact ⟨A7, c7, by first | rfl | rw [show t + 1 + (n - t) = n + 1 by omega], by first | exact ho7 | (rw [show n + 1 = t + 1 + (n - t) by omega]; exact ho7), bb7⟩)
    | none =>
      obtain rfl : c = 0 := HA0.out rfl
      obtain rfl : n = 0 := by omega
      obtain rfl : t = 0 := by omega
      have rd2 : Rd w2 w2.heap.size none 0 (xs.drop 0) := by
        have : xs = [] := List.eq_nil_of_length_eq_zero r2.len
        subst this; exact Rd.nil
      go_region_held3 (fun _ => True) (trivial) (first
        | (refine step_appS (by rfl) (.tmp 28) (.tmp 31) (by rfl) _ w2.heap.size _ _ _ [] _ _ _ w2.heap.size (xs.take 0) (by rfl) (by rfl) (by first | exact E0.out | exact E1.out | exact E2.out) (by first | exact r1.below B0.out | exact r1.below B1.out | exact r1.below B2.out) (by omega) (by simp <;> omega) ?_; intro A5 c5 w5 ho5 hg5 hb5 hat5; rw [Nat.zero_add] at ho5 ⊢;
            (first | (have bb5 := B0.out.trans hb5; have rE := R0.out.grown hg5 (Nat.le_refl _) (by intro b o e; simp at e; simp; omega)) | (have bb5 := B2.out.trans hb5; have rE := R2.out.grown hg5 (Nat.le_refl _) (by intro b o e; simp at e; simp; omega)) | have bb5 := B1.out.trans hb5); have bs5 := bb5.size; clear hg5 hb5 hat5)
        | (refine step_appS (by rfl) (.tmp 32) (.tmp 36) (by rfl) _ w2.heap.size _ _ _ _ _ _ _ _ [57856 + y] (by rfl) (by rfl) (by first | exact ho5 | exact ho5.alloc _) (by first | exact rE | exact rd_lit w5 _ _ _ rfl (by rfl)) (by omega) (by first | omega | (simp; omega)) ?_; intro A6 c6 w6 ho6 hg6 hb6 hat6;
            (first | have bb6 := bb5.trans hb6 | have bb6 := (bb5.alloc bs5 _).trans hb6); have bs6 := bb6.size; clear hg6 hb6 hat6)
        | (refine step_appS (by rfl) (.tmp 37) (.tmp 40) (by rfl) w6 w2.heap.size _ _ _ _ _ _ _ w2.heap.size (xs.drop 0) (by rfl) (by rfl) ho6 (rd2.below bb6) (by omega) bs6 ?_; intro A7 c7 w7 ho7 hg7 hb7 hat7; have bb7 := bb6.trans hb7; clear hg7 hb7 hat7))
      all_goals (go_wp2_with fail; go_meet; exact ⟨A7, c7, by first | rfl | rw [show t + 1 + (n - t) = n + 1 by omega], by first | exact ho7 | (rw [show n + 1 = t + 1 + (n - t) by omega]; exact ho7), bb7⟩)
  obtain ⟨A3, c3, rfl, hoM, hbM⟩ := hcut
  obtain ⟨w3, rfl⟩ : ∃ w3 : World, w3 = wc := ⟨_, rfl⟩
  have b3 := below_call b2 hbM
  have r3 := r2.call (Nat.le_refl _) hbM
  have rm3 := hoM.rd
  have xl := r2.len
  have XL := Lib.hid xl
  clear hbM b2 r2 hoM HA0 HA1 xl ha hy1 hy2 hbs2 hc9 hnc
  go_wp2_with fail
  refine (forms_c _ _ _ _ _ ((r3.lit _).lit _) (by omega)).mono ?_
  rintro e w4 ⟨A4, c4, rfl, ho4, hb4⟩
  have b34 : Below w3.heap.size w3 w4 := ((((Below.refl w3.heap.size w3).alloc (Nat.le_refl _) _).alloc (by simp) _)).trans (hb4.mono (by simp; omega))
  have hP3 : P3 w4 w3.heap.size w3.heap.size 0 0 [] (w3.heap.size + 1) 0 0 [] A4 n c4 (forms xs) := by
    have o1 := ((own_empty w3).alloc (.cells #[] 3)).call hb4
    have o2 := ((own_empty (w3.alloc (.cells #[] 3))).lower (base' := w3.heap.size) (by simp)).call hb4
    rw [show (w3.alloc (.cells #[] 3)).heap.size = w3.heap.size + 1 by simp] at o2
    have hlt : ∀ b, A4 = some ⟨b, 0, none⟩ → w3.heap.size + 2 ≤ b := fun b e => by
      have := (ho4.lt b 0 none e).1; simp at this; omega
    exact ⟨o1, o2, ho4.lower (by simp; omega), by omega, fun b e => by have := hlt b e; omega, fun b e => by have := hlt b e; omega⟩
  clear hb4 ho4
  go_wp2_with fail
  go_loopw [9, 10, 12] (fun f v i wr => ∃ (k m g1 c1 g2 c2 : Nat), k ≤ n ∧ m ≤ k ∧ i = .int .i64 k ∧ f = .slice (some ⟨g1, 0, none⟩) m c1 ∧ v = .slice (some ⟨g2, 0, none⟩) m c2 ∧ P3 wr w3.heap.size g1 m c1 (few (xs.take k)) g2 m c2 (wantR (xs.take k) ((forms xs).take k)) A4 n c4 (forms xs) ∧ Below w3.heap.size w3 wr) (fun _ _ i _ => n - (intOf i).toNat)
  case atStart => exact ⟨0, 0, w3.heap.size, 0, w3.heap.size + 1, 0, by omega, by omega, rfl, rfl, rfl, by simpa [few, wantR] using hP3, b34⟩
  case round =>
    obtain ⟨k, m, g1, c1, g2, c2, hk, hm, rfl, rfl, rfl, hQ, hB⟩ := hrel
    clear hP3 b34
    have bsr := hB.size
    have r4 := r3.call (Nat.le_refl _) hB
    by_cases hlt : k < n
    · obtain ⟨x, hx⟩ := getD_some xs k (by have := XL.out; omega)
      obtain ⟨f, hf⟩ := getD_some (forms xs) k (by rw [forms_length, XL.out]; exact hlt)
      obtain ⟨b, o, rfl, _, hc⟩ := r4.pos (by omega)
      obtain ⟨gf, rfl, _⟩ := hQ.o3.form (by omega)
      have d1 := hc k x hx
      have d2 := hQ.o3.cell hf
      have hsn := few_snoc hx
      have hwn := want_snoc hx hf
      have hbB := r4.pos (by omega)
      have HQ := Lib.hid hQ
      have o1 := hQ.o1
      have r4B := r3
      clear hc r4 hQ hbB
      have HF := Lib.hid hf
      by_cases h3 : kind x = 3
      · rw [if_pos h3, List.append_nil] at hsn hwn
        have t3 : (kind x != 3) = false := by rw [h3]; rfl
        have HS := Lib.hid hsn; have HW := Lib.hid hwn
        clear hsn hwn hx hf o1
        go_wp2_with (go_at_call 12; refine (kind_c _ _).mono ?_; rintro e w' ⟨rfl, rfl⟩)
        go_roundw
        case rel =>
          refine ⟨k + 1, m, g1, c1, g2, c2, by omega, by omega, by go_num, rfl, rfl, ?_, hB⟩
          rw [HS.out, HW.out]; exact HQ.out
        case measure => simp [intOf]; omega
      · rw [if_neg h3] at hsn hwn
        have t3 : (kind x != 3) = true := by rw [bne_iff_ne]; exact h3
        have HS := Lib.hid hsn; have HW := Lib.hid hwn
        clear hsn hwn hx hf
        go_wp2_with first
          | (go_at_call 12; refine (kind_c _ _).mono ?_; rintro e w' ⟨rfl, rfl⟩)
          | (at_builtin; refine app1 rfl (.tmp 63) (.tmp 68) rfl wr w3.heap.size _ _ _ _ _ (by rfl) (by rfl) o1 (by omega) (by omega) ?_; intro g5 c5 w5 ho5 hg5 hb5 hat5 hcap5; have bs5 := hb5.size; have hQ5 := (HQ.out.app ho5 hg5 hat5); have d5 := hQ5.o3.cell HF.out; have o5 := hQ5.o2; have HQ5 := Lib.hid hQ5; clear ho5 hg5 hat5 hcap5 hQ5 d2 d1)
          | (at_builtin; refine app1 rfl (.tmp 70) (.tmp 75) rfl w5 w3.heap.size _ _ _ _ _ (by rfl) (by rfl) o5 (by omega) (by omega) ?_; intro g6 c6 w6 ho6 hg6 hb6 hat6 hcap6; have HQ6 := Lib.hid (HQ5.out.swap.app ho6 hg6 hat6).swap; clear ho6 hg6 hat6 hcap6)
        go_roundw
        case rel =>
          refine ⟨k + 1, m + 1, g5, c5, g6, c6, by omega, by omega, by go_num, rfl, rfl, ?_, (hB.trans hb5).trans hb6⟩
          rw [HS.out, HW.out]; exact HQ6.out
        case measure => simp [intOf]; omega
    · obtain rfl : k = n := by omega
      rw [List.take_of_length_le (by have := XL.out; omega), List.take_of_length_le (by rw [forms_length, XL.out]; omega)] at hQ
      rw [show wantR xs (forms xs) = forms (few xs) from (formsR_few xs 0).symm] at hQ
      have rF := hQ.o1.rd
      have rW := hQ.o2.rd
      have rO := hQ.o3.rd
      have rM := rm3.call (Nat.le_refl _) hB
      have br := below_call b3 hB
      clear hQ hB bsr r4 r3 rm3 b3
      go_wp2_with fail
      refine (forms_c _ _ _ _ _ rM (by omega)).mono ?_
      rintro e w6 ⟨A6, c6, rfl, ho6, hb6⟩
      have b6 := below_call br hb6
      have rF6 := rF.call (Nat.le_refl _) hb6
      have rW6 := rW.call (Nat.le_refl _) hb6
      have rO6 := rO.call (Nat.le_refl _) hb6
      have eput : forms (xs.take t ++ [57856 + y] ++ xs.drop t) = (forms xs).take t ++ 0 :: (forms xs).drop t := by
        have := formsR_put (xs.take t) (xs.drop t) (57856 + y) HK.out 0
        rw [List.take_append_drop, List.length_take, XL.out, Nat.min_eq_left htn] at this
        unfold forms
        rw [List.append_assoc, List.singleton_append]; exact this
      rw [eput] at ho6
      obtain ⟨g6, rfl, _, _, hc6⟩ := ho6.form (by omega)
      have fl : (forms xs).length = k := by rw [forms_length, XL.out]
      have d6 : w6.cell? ⟨g6, t, none⟩ = some (.int .i64 0) := ho6.cell (by
        rw [List.getElem?_append_right (by simp; omega), List.length_take, fl, Nat.min_eq_left htn, Nat.sub_self]; rfl)
      have r61 := ho6.rd.take t (by omega)
      have FL := Lib.hid fl
      have r62 := ho6.rd.drop (t + 1) (by omega) (if c6 = t + 1 then some ⟨g6, 0, none⟩ else some ⟨g6, t + 1, none⟩) (fun h => by rw [if_neg (by omega), Nat.zero_add])
      have e61 : ((forms xs).take t ++ 0 :: (forms xs).drop t).take t = (forms xs).take t := by rw [List.take_append_of_le_length (by rw [List.length_take, FL.out]; omega), List.take_take, Nat.min_self]
      have e62 : ((forms xs).take t ++ 0 :: (forms xs).drop t).drop (t + 1) = (forms xs).drop t := by
        rw [List.drop_append, List.length_take, FL.out, Nat.min_eq_left htn, List.drop_of_length_le (by rw [List.length_take]; omega), show t + 1 - t = 1 by omega]; rfl
      rw [e61] at r61
      rw [e62] at r62
      clear e61 e62 eput ho6 fl rF rW rO rM br hb6
      have tn0 : (0 : Int) ≤ (t : Int) := by omega
      have tn1 : (t : Int) < (k : Int) + 1 := by omega
      go_wp2_with fail
      have F6 : Rd w6.drew w6.drew.heap.size (some ⟨g1, 0, none⟩) m (few xs) := rF6
      have W6 : Rd w6.drew w6.drew.heap.size (some ⟨g2, 0, none⟩) m (forms (few xs)) := rW6
      have O6 : Rd w6.drew w6.drew.heap.size A4 k (forms xs) := rO6
      have X6 : Rd w6.drew w6.drew.heap.size (some ⟨g6, 0, none⟩) t ((forms xs).take t) := r61
      have b6d := below_drew b6
      have e78 : (forms xs).take t ++ (forms xs).drop t = forms xs := List.take_append_drop _ _
      have E78 := Lib.hid e78
      clear rF6 rW6 rO6 r61 b6 e78
      have p1 : IntKind.i64.wrap ((t : Int) + 1) = (t : Int) + 1 := IntWalk.i64_in _ (by omega)
      have p2 : (0 : Int) ≤ (t : Int) + 1 := by omega
      have p3 : ((t : Int) + 1).toNat = t + 1 := by omega
      have p4 : (t : Int) + 1 ≤ (c6 : Int) := by omega
      have p5 : (t : Int) + 1 ≤ (k : Int) + 1 := by omega
      have p6 : (t : Int) ≤ (c6 : Int) := by omega
      by_cases hct : c6 = t + 1
      · subst hct
        have p6' : (t : Int) ≤ (t : Int) + 1 := by omega
        obtain rfl : k = t := by omega
        clear p4 p6
        have Y6 : Rd w6.drew w6.drew.heap.size (some ⟨g6, 0, none⟩) 0 ((forms xs).drop k) := by rw [if_pos rfl, Nat.sub_self] at r62; exact r62
        clear r62
        go_region_held3 (fun _ => True) (trivial) (first
          | (go_at_call 18; (with_reducible refine (forms_c _ _ _ _ _ F6 (by omega)).mono ?_); rintro e w7 ⟨A7, c7, rfl, ho7, hb7⟩; have q7 := ho7.rd; have b7 := below_call b6d hb7; have W7 := W6.call (Nat.le_refl _) hb7; have O7 := O6.call (Nat.le_refl _) hb7; have X7 := X6.call (Nat.le_refl _) hb7; have Y7 := Y6.call (Nat.le_refl _) hb7; clear ho7 hb7 F6 W6 O6 X6 Y6 b6d)
          | (go_at_call 17; (with_reducible refine (same_t _ _ _ _ _ _ _ _ q7 W7 (by omega) (by omega)).mono ?_); rintro e w8 ⟨rfl, hb8⟩; have b8 := below_call b7 hb8; have O8 := O7.call (Nat.le_refl _) hb8; have X8 := X7.call (Nat.le_refl _) hb8; have Y8 := Y7.call (Nat.le_refl _) hb8; clear hb8 q7 W7 O7 X7 Y7 b7)
          | (refine step_appS (by rfl) (.tmp 99) (.tmp 102) (by rfl) _ w8.heap.size _ _ _ [] _ _ _ w8.heap.size ((forms xs).take k) (by rfl) (by rfl) (own_empty w8) (X8.alloc (Nat.le_refl _) _) (by omega) (by simp) ?_; intro A9 c9 w9 ho9 hg9 hb9 hat9; rw [Nat.zero_add] at ho9 ⊢; have bb9 := ((Below.refl w8.heap.size w8).alloc (Nat.le_refl _) (.cells #[] 3)).trans hb9; have bs9 := bb9.size; clear hg9 hb9 hat9)
          | (refine step_appS (by rfl) (.tmp 103) (.tmp 107) (by rfl) w9 w8.heap.size _ _ _ _ _ _ _ w8.heap.size ((forms xs).drop k) (by rfl) (by rfl) ho9 (Y8.below bb9) (by omega) bs9 ?_; intro A10 c10 w10 ho10 hg10 hb10 hat10; have bb10 := bb9.trans hb10; have q10 := ho10.rd; rw [List.nil_append, E78.out, Nat.add_zero] at q10; have O10 := O8.call (Nat.le_refl _) bb10; have b10 := below_call b8 bb10; clear hg10 hb10 hat10 bb9 ho10)
          | (go_at_call 17; (with_reducible refine (same_t _ _ _ _ _ _ _ _ q10 O10 (by omega) (by omega)).mono ?_); rintro e w11 ⟨rfl, hb11⟩; have b11 := below_call b10 hb11))
        all_goals
          go_wp2_with fail
          go_ret
          exact ⟨rfl, b11⟩
      · have Y6 : Rd w6.drew w6.drew.heap.size (some ⟨g6, t + 1, none⟩) (k - t) ((forms xs).drop t) := by rw [← Nat.add_sub_add_right k 1 t]; rw [if_neg hct] at r62; exact r62
        clear r62
        go_region_held3 (fun _ => True) (trivial) (first
          | (go_at_call 18; (with_reducible refine (forms_c _ _ _ _ _ F6 (by omega)).mono ?_); rintro e w7 ⟨A7, c7, rfl, ho7, hb7⟩; have q7 := ho7.rd; have b7 := below_call b6d hb7; have W7 := W6.call (Nat.le_refl _) hb7; have O7 := O6.call (Nat.le_refl _) hb7; have X7 := X6.call (Nat.le_refl _) hb7; have Y7 := Y6.call (Nat.le_refl _) hb7; clear ho7 hb7 F6 W6 O6 X6 Y6 b6d)
          | (go_at_call 17; (with_reducible refine (same_t _ _ _ _ _ _ _ _ q7 W7 (by omega) (by omega)).mono ?_); rintro e w8 ⟨rfl, hb8⟩; have b8 := below_call b7 hb8; have O8 := O7.call (Nat.le_refl _) hb8; have X8 := X7.call (Nat.le_refl _) hb8; have Y8 := Y7.call (Nat.le_refl _) hb8; clear hb8 q7 W7 O7 X7 Y7 b7)
          | (refine step_appS (by rfl) (.tmp 99) (.tmp 102) (by rfl) _ w8.heap.size _ _ _ [] _ _ _ w8.heap.size ((forms xs).take t) (by rfl) (by rfl) (own_empty w8) (X8.alloc (Nat.le_refl _) _) (by omega) (by simp) ?_; intro A9 c9 w9 ho9 hg9 hb9 hat9; rw [Nat.zero_add] at ho9 ⊢; have bb9 := ((Below.refl w8.heap.size w8).alloc (Nat.le_refl _) (.cells #[] 3)).trans hb9; have bs9 := bb9.size; clear hg9 hb9 hat9)
          | (refine step_appS (by rfl) (.tmp 103) (.tmp 107) (by rfl) w9 w8.heap.size _ _ _ _ _ _ _ w8.heap.size ((forms xs).drop t) (by rfl) (by rfl) ho9 (Y8.below bb9) (by omega) bs9 ?_; intro A10 c10 w10 ho10 hg10 hb10 hat10; have bb10 := bb9.trans hb10; have q10 := ho10.rd; rw [List.nil_append, E78.out, show t + (k - t) = k by omega] at q10; have O10 := O8.call (Nat.le_refl _) bb10; have b10 := below_call b8 bb10; clear hg10 hb10 hat10 bb9 ho10)
          | (go_at_call 17; (with_reducible refine (same_t _ _ _ _ _ _ _ _ q10 O10 (by omega) (by omega)).mono ?_); rintro e w11 ⟨rfl, hb11⟩; have b11 := below_call b10 hb11))
        all_goals
          go_wp2_with fail
          go_ret
          exact ⟨rfl, b11⟩

end Go.Proofs.Ytdacfcfgikllpaa
