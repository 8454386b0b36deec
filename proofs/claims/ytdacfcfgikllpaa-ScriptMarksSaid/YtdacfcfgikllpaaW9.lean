/- Walks: the symmetric merge, the way that parts and merges the halves; the whole. -/
import Derived.Test.YtdacfcfgikllpaaW8
namespace Go.Proofs.Ytdacfcfgikllpaa
open Go.RowKit

theorem Srt.ends {K : Nat → Int} {f : Nat → Nat} {a b a' b' : Nat} (h : Srt K f a b) (e1 : a = a') (e2 : b = b') : Srt K f a' b' := by subst e1; subst e2; exact h
theorem Mid.keep {K : Nat → Int} {g f1 : Nat → Nat} {a s mid en b : Nat} (h : Mid K g a s mid en b) (hen : mid ≤ en) (p : Prm g f1 a mid) : Srt K f1 mid en ∧ Srt K f1 en b ∧ Apart f1 mid en b := by
  refine ⟨?_, ?_, ?_⟩
  · exact h.s3.congr fun x h1 _ => p.out (.inr h1)
  · exact h.s4.congr fun x h1 _ => p.out (.inr (by omega))
  · intro x y h1 h2 h3 h4
    rw [p.out (.inr h1), p.out (.inr (by omega))]; exact h.p2 x y h1 h2 h3 h4

set_option maxRecDepth 100000 in
set_option maxHeartbeats 8000000 in
theorem sym_mid (S : SP) (D : Nat) (IH0 : SymSaid S D) (f0 : Nat → Nat) (w : World) (C a m b : Nat) (hS : S.Ok) (h : S.St w f0) (ham : a + 1 < m) (hmb : m + 1 < b) (hbL : b ≤ S.L) (hD : b - a ≤ D + 1) (hl0 : Srt S.K f0 a m) (hr0 : Srt S.K f0 m b) (hp0 : Apart f0 a m b) :
  Calls Try.prog 38 #[.slice (some ⟨S.g, S.z0.length, none⟩) S.L C, .int .i64 a, .int .i64 m, .int .i64 b, .func (.func 33) #[] #[.pointer (some ⟨S.B1, 0, none⟩)]] w fun e w' => e = .returned (.tuple #[]) ∧
      ∃ f', S.St w' f' ∧ Prm f0 f' a b ∧ Srt S.K f' a b ∧ w.grownBy w' (some S.g) := by
  have hLn : S.L ≤ 1000000 := by have := hS.len; have := hS.hN; omega
  have HL := Lib.hid hl0; have HR := Lib.hid hr0; have HP := Lib.hid hp0; have IH := Lib.hid IH0; clear hl0 hr0 hp0 IH0
  have ht0 : (((m : Int) - (a : Int)) == 1) = false := by rw [beq_eq_false_iff_ne]; omega
  have ht1 : (((b : Int) - (m : Int)) == 1) = false := by rw [beq_eq_false_iff_ne]; omega
  obtain ⟨mid, hmid⟩ : ∃ mid : Nat, ((a : Int) + (b : Int)) / 2 = (mid : Int) := ⟨(a + b) / 2, by omega⟩
  have hm1 : 2 * mid ≤ a + b := by omega
  have hm2 : a + b ≤ 2 * mid + 1 := by omega
  obtain ⟨s0, hs0⟩ : ∃ s0 : Nat, s0 = mid + m - b := ⟨_, rfl⟩
  have HS0 := Lib.hid hs0; clear hs0
  by_cases hmm : mid < m
  all_goals
    go_enter Try.func38, Try.ntmps38
    go_wp2
    clear hmid
    go_loopw [20, 21] (fun vs vr wr => ∃ (s r d : Nat), vs = .int .i64 s ∧ vr = .int .i64 r ∧ a ≤ s ∧ s ≤ r ∧ r ≤ m ∧ r ≤ mid ∧ mid + m ≤ s + b ∧ (s = a ∨ mid + m - s = b ∨ S.K (f0 (s - 1)) ≤ S.K (f0 (mid + m - s))) ∧ (r = m ∨ r = mid ∨ S.K (f0 (mid + m - 1 - r)) < S.K (f0 r)) ∧ wr = w.drewN d) (fun vs vr _ => (intOf vr).toNat - (intOf vs).toNat)
    case atStart =>
      first
        | exact ⟨mid + m - b, mid, 0, by go_num, rfl, by omega, by omega, by omega, by omega, by omega, .inr (.inl (by omega)), .inr (.inl rfl), rfl⟩
        | exact ⟨a, m, 0, rfl, rfl, by omega, by omega, by omega, by omega, by omega, .inl rfl, .inl rfl, rfl⟩
    case round =>
      obtain ⟨s, r, d, rfl, rfl, h1, h2, h3, h4, h5, hc1, hc2, rfl⟩ := hrel
      have HC1 := Lib.hid hc1; have HC2 := Lib.hid hc2; clear hc1 hc2
      by_cases hlt : s < r
      · have hcw : ∀ t, t < S.L → w.cell? ⟨S.g, S.z0.length + t, none⟩ = some (.int .i64 (f0 t : Nat)) := fun t ht => h.cell ht
        obtain ⟨c, hc⟩ : ∃ c : Nat, ((s : Int) + (r : Int)) / 2 = (c : Int) := ⟨(s + r) / 2, by omega⟩
        have hc1 : s ≤ c := by omega
        have hc2 : c < r := by omega
        have HC := Lib.hid hc; clear hc
        obtain ⟨q, hq⟩ : ∃ q : Nat, (mid : Int) + (m : Int) - 1 - (c : Int) = (q : Int) := ⟨mid + m - 1 - c, by omega⟩
        have hqc : q = mid + m - 1 - c := by omega
        have HQC := Lib.hid hqc
        have hcL : (c : Int) < (S.L : Int) := by omega
        have hc0 : (0 : Int) ≤ (c : Int) := by omega
        have hqL : (q : Int) < (S.L : Int) := by omega
        have hq0 : (0 : Int) ≤ (q : Int) := by omega
        have hwr : IntKind.i64.wrap ((mid : Int) + (m : Int) - 1 - (c : Int)) = (q : Int) := by rw [IntWalk.i64_in _ (by omega)]; exact hq
        have HWR := Lib.hid hwr
        have lc := fun k => less_c S f0 (w.drewN k) hS (h.drewN k) (f0 q) (f0 c) (h.lt _ (by omega)) (h.lt _ (by omega))
        have LC := Lib.hid lc
        clear lc hqc hq hwr
        by_cases hk : S.K (f0 q) < S.K (f0 c)
        · have t1 := cmp3_lt hk
          have HK := Lib.hid hk; clear hk
          go_wp2
          rw [HC.out]
          have hwr := HWR.out
          go_quiet ((go_at_call 33; exact quiet_add_d (LC.out _)))
          clear hwr
          go_wp2
          go_roundw
          case rel => exact ⟨s, c, d + nq, rfl, rfl, h1, by omega, by omega, by omega, h5, HC1.out, .inr (.inr (by rw [← HQC.out]; exact HK.out)), by simp⟩
          case measure => simp [intOf]; omega
        · have t1 := cmp3_ge hk
          have HK := Lib.hid hk; clear hk
          go_wp2
          rw [HC.out]
          have hwr := HWR.out
          go_quiet ((go_at_call 33; exact quiet_add_d (LC.out _)))
          clear hwr
          go_wp2
          go_roundw
          case rel => exact ⟨c + 1, r, d + nq, by go_num, rfl, by omega, by omega, h3, h4, by omega, .inr (.inr (by have := HK.out; rw [show c + 1 - 1 = c by omega, show mid + m - (c + 1) = q by have := HQC.out; omega]; omega)), HC2.out, by simp⟩
          case measure => simp [intOf]; omega
      · obtain rfl : s = r := by omega
        obtain ⟨en, hen⟩ : ∃ en : Nat, en = mid + m - s := ⟨_, rfl⟩
        have he1 : mid + m = s + en := by omega
        have HEN := Lib.hid hen; clear hen
        have hM : Mid S.K (rot f0 s m en) a s mid en b := merge_mid HL.out HR.out HP.out h1 h3 (by omega) (by omega) he1
          (by have := HEN.out; subst this; exact HC1.out)
          (by
            rcases HC2.out with c | c | c
            · exact .inl c
            · exact .inr (.inl (by omega))
            · right; right; rw [show en - 1 = mid + m - 1 - s by omega]; exact c)
        have HM := Lib.hid hM; clear hM
        have hpr : Prm f0 (rot f0 s m en) a b := (Prm.rot f0 h3 (by omega)).mono h1 (by omega)
        have HPR := Lib.hid hpr; clear hpr
        have hg0 : w.grownBy (w.drewN d) (some S.g) := grownBy_drewN (World.grownBy.refl w _) d
        have rc : ∀ (e : Int), e = (en : Int) → s < m → m < en → Calls Try.prog 39 #[.slice (some ⟨S.g, S.z0.length, none⟩) S.L C, .int .i64 s, .int .i64 m, .int .i64 e, .func (.func 33) #[] #[.pointer (some ⟨S.B1, 0, none⟩)]] (w.drewN d) fun e w' => e = .returned (.tuple #[]) ∧ S.St w' (rot f0 s m en) ∧ (w.drewN d).grownBy w' (some S.g) := fun e he g1 g2 => by
          subst he; exact rotate_c S f0 (w.drewN d) C s m en (.func (.func 33) #[] #[.pointer (some ⟨S.B1, 0, none⟩)]) hS (h.drewN d) g1 g2 (by omega)
        have ihA := fun (f : Nat → Nat) (wx : World) (hx : S.St wx f) (q1 : Srt S.K f a s) (q2 : Srt S.K f s mid) (q3 : Apart f a s mid) (g1 : a < s) (g2 : s < mid) => IH.out f wx C a s mid hx g1 g2 (by omega) (by omega) q1 q2 q3
        have ihB : ∀ (f : Nat → Nat) (wx : World) (e : Int), e = (en : Int) → S.St wx f → (Srt S.K f mid en ∧ Srt S.K f en b ∧ Apart f mid en b) → mid < en → en < b → Calls Try.prog 38 #[.slice (some ⟨S.g, S.z0.length, none⟩) S.L C, .int .i64 mid, .int .i64 e, .int .i64 b, .func (.func 33) #[] #[.pointer (some ⟨S.B1, 0, none⟩)]] wx fun e w' => e = .returned (.tuple #[]) ∧ ∃ f', S.St w' f' ∧ Prm f f' mid b ∧ Srt S.K f' mid b ∧ wx.grownBy w' (some S.g) := fun f wx e he hx q g1 g2 => by
          subst he; exact IH.out f wx C mid en b hx g1 g2 hbL (by omega) q.1 q.2.1 q.2.2
        have RC := Lib.hid rc; have IHA := Lib.hid ihA; have IHB := Lib.hid ihB
        clear rc ihA ihB IH
        have hst0 := h.drewN d
        have HST0 := Lib.hid hst0; clear hst0 h
        by_cases P1 : s < m
        · skip
          by_cases P2 : s < mid
          · skip
            by_cases P3 : a < s
            · skip
              by_cases P4 : en < b
              · skip
                go_wp2_with (first | (go_at_call 39; (with_reducible refine (RC.out _ (by omega) (by omega) (by omega)).mono ?_); rintro e w1 ⟨rfl, st1, gr1⟩) | (go_at_call 38; (with_reducible refine (IHA.out _ _ st1 HM.out.s1 HM.out.s2 HM.out.p1 (by omega) (by omega)).mono ?_); rintro e w2 ⟨rfl, f1, st2, pr2, sr2, gr2⟩) | (go_at_call 38; (with_reducible refine (IHB.out _ _ _ (by omega) st2 (HM.out.keep (by omega) pr2) (by omega) (by omega)).mono ?_); rintro e w3 ⟨rfl, f2, st3, pr3, sr3, gr3⟩))
                all_goals
                  go_end0
                  have fin := merge_join (by omega) (by omega) HM.out.cross pr2 sr2 (pr3) sr3
                  exact ⟨rfl, _, st3, HPR.out.trans fin.2, fin.1, (((hg0.trans gr1).trans gr2).trans gr3)⟩
              · skip
                go_wp2_with (first | (go_at_call 39; (with_reducible refine (RC.out _ (by omega) (by omega) (by omega)).mono ?_); rintro e w1 ⟨rfl, st1, gr1⟩) | (go_at_call 38; (with_reducible refine (IHA.out _ _ st1 HM.out.s1 HM.out.s2 HM.out.p1 (by omega) (by omega)).mono ?_); rintro e w2 ⟨rfl, f1, st2, pr2, sr2, gr2⟩))
                all_goals
                  go_end0
                  have fin := merge_join (by omega) (by omega) HM.out.cross pr2 sr2 (Prm.refl _ mid b) ((HM.out.keep (by omega) pr2).1.ends rfl (by omega))
                  exact ⟨rfl, _, st2, HPR.out.trans fin.2, fin.1, ((hg0.trans gr1).trans gr2)⟩
            · skip
              by_cases P4 : en < b
              · skip
                go_wp2_with (first | (go_at_call 39; (with_reducible refine (RC.out _ (by omega) (by omega) (by omega)).mono ?_); rintro e w1 ⟨rfl, st1, gr1⟩) | (go_at_call 38; (with_reducible refine (IHB.out _ _ _ (by omega) st1 (HM.out.keep (by omega) (Prm.refl (rot f0 s m en) a mid)) (by omega) (by omega)).mono ?_); rintro e w3 ⟨rfl, f2, st3, pr3, sr3, gr3⟩))
                all_goals
                  go_end0
                  have fin := merge_join (by omega) (by omega) HM.out.cross (Prm.refl (rot f0 s m en) a mid) (HM.out.s2.ends (by omega) rfl) (pr3) sr3
                  exact ⟨rfl, _, st3, HPR.out.trans fin.2, fin.1, ((hg0.trans gr1).trans gr3)⟩
              · skip
                go_wp2_with (first | (go_at_call 39; (with_reducible refine (RC.out _ (by omega) (by omega) (by omega)).mono ?_); rintro e w1 ⟨rfl, st1, gr1⟩))
                all_goals
                  go_end0
                  have fin := merge_join (by omega) (by omega) HM.out.cross (Prm.refl (rot f0 s m en) a mid) (HM.out.s2.ends (by omega) rfl) (Prm.refl _ mid b) ((HM.out.keep (by omega) (Prm.refl (rot f0 s m en) a mid)).1.ends rfl (by omega))
                  exact ⟨rfl, _, st1, HPR.out.trans fin.2, fin.1, (hg0.trans gr1)⟩
          · skip
            by_cases P3 : a < s
            · skip
              by_cases P4 : en < b
              · skip
                have hid_ : rot f0 s m en = f0 := by rw [show en = m by omega]; exact rot_id_right _ _ _
                have st1 : S.St (w.drewN d) (rot f0 s m en) := by rw [hid_]; exact HST0.out
                clear hid_
                go_wp2_with (first | (go_at_call 38; (with_reducible refine (IHB.out _ _ _ (by omega) st1 (HM.out.keep (by omega) (Prm.refl (rot f0 s m en) a mid)) (by omega) (by omega)).mono ?_); rintro e w3 ⟨rfl, f2, st3, pr3, sr3, gr3⟩))
                all_goals
                  go_end0
                  have fin := merge_join (by omega) (by omega) HM.out.cross (Prm.refl (rot f0 s m en) a mid) (HM.out.s1.ends rfl (by omega)) (pr3) sr3
                  exact ⟨rfl, _, st3, HPR.out.trans fin.2, fin.1, (hg0.trans gr3)⟩
              · skip
                have hid_ : rot f0 s m en = f0 := by rw [show en = m by omega]; exact rot_id_right _ _ _
                have st1 : S.St (w.drewN d) (rot f0 s m en) := by rw [hid_]; exact HST0.out
                clear hid_
                go_wp2
                all_goals
                  go_end0
                  have fin := merge_join (by omega) (by omega) HM.out.cross (Prm.refl (rot f0 s m en) a mid) (HM.out.s1.ends rfl (by omega)) (Prm.refl _ mid b) ((HM.out.keep (by omega) (Prm.refl (rot f0 s m en) a mid)).1.ends rfl (by omega))
                  exact ⟨rfl, _, st1, HPR.out.trans fin.2, fin.1, hg0⟩
            · skip
              by_cases P4 : en < b
              · skip
                have hid_ : rot f0 s m en = f0 := by rw [show en = m by omega]; exact rot_id_right _ _ _
                have st1 : S.St (w.drewN d) (rot f0 s m en) := by rw [hid_]; exact HST0.out
                clear hid_
                go_wp2_with (first | (go_at_call 38; (with_reducible refine (IHB.out _ _ _ (by omega) st1 (HM.out.keep (by omega) (Prm.refl (rot f0 s m en) a mid)) (by omega) (by omega)).mono ?_); rintro e w3 ⟨rfl, f2, st3, pr3, sr3, gr3⟩))
                all_goals
                  go_end0
                  have fin := merge_join (by omega) (by omega) HM.out.cross (Prm.refl (rot f0 s m en) a mid) (HM.out.s1.ends rfl (by omega)) (pr3) sr3
                  exact ⟨rfl, _, st3, HPR.out.trans fin.2, fin.1, (hg0.trans gr3)⟩
              · skip
                have hid_ : rot f0 s m en = f0 := by rw [show en = m by omega]; exact rot_id_right _ _ _
                have st1 : S.St (w.drewN d) (rot f0 s m en) := by rw [hid_]; exact HST0.out
                clear hid_
                go_wp2
                all_goals
                  go_end0
                  have fin := merge_join (by omega) (by omega) HM.out.cross (Prm.refl (rot f0 s m en) a mid) (HM.out.s1.ends rfl (by omega)) (Prm.refl _ mid b) ((HM.out.keep (by omega) (Prm.refl (rot f0 s m en) a mid)).1.ends rfl (by omega))
                  exact ⟨rfl, _, st1, HPR.out.trans fin.2, fin.1, hg0⟩
        · skip
          by_cases P2 : s < mid
          · skip
            by_cases P3 : a < s
            · skip
              by_cases P4 : en < b
              · skip
                have hid_ : rot f0 s m en = f0 := by rw [show s = m by omega]; exact rot_id_left _ _ _
                have st1 : S.St (w.drewN d) (rot f0 s m en) := by rw [hid_]; exact HST0.out
                clear hid_
                go_wp2_with (first | (go_at_call 38; (with_reducible refine (IHA.out _ _ st1 HM.out.s1 HM.out.s2 HM.out.p1 (by omega) (by omega)).mono ?_); rintro e w2 ⟨rfl, f1, st2, pr2, sr2, gr2⟩))
                all_goals
                  go_end0
                  have fin := merge_join (by omega) (by omega) HM.out.cross pr2 sr2 (Prm.refl _ mid b) ((HM.out.keep (by omega) pr2).2.1.ends (by omega) rfl)
                  exact ⟨rfl, _, st2, HPR.out.trans fin.2, fin.1, (hg0.trans gr2)⟩
              · skip
                have hid_ : rot f0 s m en = f0 := by rw [show s = m by omega]; exact rot_id_left _ _ _
                have st1 : S.St (w.drewN d) (rot f0 s m en) := by rw [hid_]; exact HST0.out
                clear hid_
                go_wp2_with (first | (go_at_call 38; (with_reducible refine (IHA.out _ _ st1 HM.out.s1 HM.out.s2 HM.out.p1 (by omega) (by omega)).mono ?_); rintro e w2 ⟨rfl, f1, st2, pr2, sr2, gr2⟩))
                all_goals
                  go_end0
                  have fin := merge_join (by omega) (by omega) HM.out.cross pr2 sr2 (Prm.refl _ mid b) ((HM.out.keep (by omega) pr2).2.1.ends (by omega) rfl)
                  exact ⟨rfl, _, st2, HPR.out.trans fin.2, fin.1, (hg0.trans gr2)⟩
            · skip
              by_cases P4 : en < b
              · skip
                have hid_ : rot f0 s m en = f0 := by rw [show s = m by omega]; exact rot_id_left _ _ _
                have st1 : S.St (w.drewN d) (rot f0 s m en) := by rw [hid_]; exact HST0.out
                clear hid_
                go_wp2
                all_goals
                  go_end0
                  have fin := merge_join (by omega) (by omega) HM.out.cross (Prm.refl (rot f0 s m en) a mid) (HM.out.s2.ends (by omega) rfl) (Prm.refl _ mid b) ((HM.out.keep (by omega) (Prm.refl (rot f0 s m en) a mid)).2.1.ends (by omega) rfl)
                  exact ⟨rfl, _, st1, HPR.out.trans fin.2, fin.1, hg0⟩
              · skip
                have hid_ : rot f0 s m en = f0 := by rw [show s = m by omega]; exact rot_id_left _ _ _
                have st1 : S.St (w.drewN d) (rot f0 s m en) := by rw [hid_]; exact HST0.out
                clear hid_
                go_wp2
                all_goals
                  go_end0
                  have fin := merge_join (by omega) (by omega) HM.out.cross (Prm.refl (rot f0 s m en) a mid) (HM.out.s2.ends (by omega) rfl) (Prm.refl _ mid b) ((HM.out.keep (by omega) (Prm.refl (rot f0 s m en) a mid)).2.1.ends (by omega) rfl)
                  exact ⟨rfl, _, st1, HPR.out.trans fin.2, fin.1, hg0⟩
          · skip
            by_cases P3 : a < s
            · skip
              by_cases P4 : en < b
              · skip
                have hid_ : rot f0 s m en = f0 := by rw [show s = m by omega]; exact rot_id_left _ _ _
                have st1 : S.St (w.drewN d) (rot f0 s m en) := by rw [hid_]; exact HST0.out
                clear hid_
                go_wp2
                all_goals
                  go_end0
                  have fin := merge_join (by omega) (by omega) HM.out.cross (Prm.refl (rot f0 s m en) a mid) (HM.out.s1.ends rfl (by omega)) (Prm.refl _ mid b) ((HM.out.keep (by omega) (Prm.refl (rot f0 s m en) a mid)).2.1.ends (by omega) rfl)
                  exact ⟨rfl, _, st1, HPR.out.trans fin.2, fin.1, hg0⟩
              · skip
                have hid_ : rot f0 s m en = f0 := by rw [show s = m by omega]; exact rot_id_left _ _ _
                have st1 : S.St (w.drewN d) (rot f0 s m en) := by rw [hid_]; exact HST0.out
                clear hid_
                go_wp2
                all_goals
                  go_end0
                  have fin := merge_join (by omega) (by omega) HM.out.cross (Prm.refl (rot f0 s m en) a mid) (HM.out.s1.ends rfl (by omega)) (Prm.refl _ mid b) ((HM.out.keep (by omega) (Prm.refl (rot f0 s m en) a mid)).2.1.ends (by omega) rfl)
                  exact ⟨rfl, _, st1, HPR.out.trans fin.2, fin.1, hg0⟩
            · skip
              by_cases P4 : en < b
              · skip
                have hid_ : rot f0 s m en = f0 := by rw [show s = m by omega]; exact rot_id_left _ _ _
                have st1 : S.St (w.drewN d) (rot f0 s m en) := by rw [hid_]; exact HST0.out
                clear hid_
                go_wp2
                all_goals
                  go_end0
                  have fin := merge_join (by omega) (by omega) HM.out.cross (Prm.refl (rot f0 s m en) a mid) (HM.out.s1.ends rfl (by omega)) (Prm.refl _ mid b) ((HM.out.keep (by omega) (Prm.refl (rot f0 s m en) a mid)).2.1.ends (by omega) rfl)
                  exact ⟨rfl, _, st1, HPR.out.trans fin.2, fin.1, hg0⟩
              · skip
                have hid_ : rot f0 s m en = f0 := by rw [show s = m by omega]; exact rot_id_left _ _ _
                have st1 : S.St (w.drewN d) (rot f0 s m en) := by rw [hid_]; exact HST0.out
                clear hid_
                go_wp2
                all_goals
                  go_end0
                  have fin := merge_join (by omega) (by omega) HM.out.cross (Prm.refl (rot f0 s m en) a mid) (HM.out.s1.ends rfl (by omega)) (Prm.refl _ mid b) ((HM.out.keep (by omega) (Prm.refl (rot f0 s m en) a mid)).2.1.ends (by omega) rfl)
                  exact ⟨rfl, _, st1, HPR.out.trans fin.2, fin.1, hg0⟩

theorem sym_c (S : SP) (hS : S.Ok) (D : Nat) : SymSaid S D := by
  induction D with
  | zero => intro f0 w C a m b h h1 h2 h3 h4; omega
  | succ D ih =>
    intro f0 w C a m b h h1 h2 h3 h4 hl hr hp
    by_cases c1 : m = a + 1
    · subst c1
      exact sym_left S f0 w C a b hS h h2 h3 hr hp
    · by_cases c2 : b = m + 1
      · subst c2
        exact sym_right S f0 w C a m hS h (by omega) h3 hl hp
      · exact sym_mid S D ih f0 w C a m b hS h (by omega) (by omega) h3 h4 hl hr hp

end Go.Proofs.Ytdacfcfgikllpaa
