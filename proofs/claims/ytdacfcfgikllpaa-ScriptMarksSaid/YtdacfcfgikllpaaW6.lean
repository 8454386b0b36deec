/- Walks: the reference's Ahead, Order. -/
import Derived.Test.YtdacfcfgikllpaaW5
namespace Go.Proofs.Ytdacfcfgikllpaa
open Go.RowKit

theorem quiet_add_left {P : Program} {f : FuncId} {args : Array Value} {w : World} {a n : Nat} {v : Value}
    (h : Calls P f args (w.drewN (a + n)) fun e w' => e = .returned v ∧ w.drewN (a + n) = w') :
    Calls P f args (w.drewN (a + n)) fun e w'' => e = .returned v ∧ ∃ m, w'' = w.drewN (a + m) :=
  h.mono fun _ _ ⟨he, hm⟩ => ⟨he, n, hm.symm⟩

set_option maxHeartbeats 2000000 in
theorem ahead_c (A : Option Addr) (n c a b : Nat) (xs : List Int) (w : World) (hA : Rd w w.heap.size A n xs) (hn : n ≤ 1000000) (ha : a < n) (hb : b < n) :
    Calls Try.prog 29 #[.slice A n c, .int .i64 a, .int .i64 b] w fun e w' => e = .returned (.bool (aheadB xs a b)) ∧ ∃ d, w' = w.drewN d := by
  have HL := Lib.hid hA.len
  have HA := Lib.hid hA
  obtain ⟨bb, o, rfl, _, hc⟩ := hA.pos (by omega)
  obtain ⟨x, hx⟩ := getD_some xs a (by have := HL.out; omega)
  obtain ⟨y, hy⟩ := getD_some xs b (by have := HL.out; omega)
  have c1 := hc a x hx
  have c2 := hc b y hy
  have gx := getD_of hx
  have gy := getD_of hy
  have hah : aheadB xs a b = (if clu xs a ≠ clu xs b then decide (clu xs a < clu xs b)
    else if grp xs a ≠ grp xs b then (if grp xs a = clu xs a then false else decide (grp xs b = clu xs a) || decide (grp xs a < grp xs b))
    else if (kind x == 3) != (kind y == 3) then (kind y == 3)
    else if cls x ≠ cls y then decide (cls x < cls y) else decide (a < b)) := by unfold aheadB; rw [gx, gy]
  have h1 := clu_le xs a; have h2 := clu_le xs b; have h3 := grp_le xs a; have h4 := grp_le xs b
  have ca := fun w0 h => cluster_c (some ⟨bb, o, none⟩) n c a xs w0 h hn ha
  have cb := fun w0 h => cluster_c (some ⟨bb, o, none⟩) n c b xs w0 h hn hb
  have ga := fun w0 h => group_c (some ⟨bb, o, none⟩) n c a xs w0 h hn ha
  have gb := fun w0 h => group_c (some ⟨bb, o, none⟩) n c b xs w0 h hn hb
  generalize clu xs a = p at hah ca h1
  generalize clu xs b = q at hah cb h2
  generalize grp xs a = r at hah ga h3
  generalize grp xs b = s at hah gb h4
  have kx := fun w0 => rkind_c x w0
  have ky := fun w0 => rkind_c y w0
  have lx := fun w0 => rclass_c x w0
  have ly := fun w0 => rclass_c y w0
  generalize kind x = k1 at hah kx
  generalize kind y = k2 at hah ky
  generalize cls x = l1 at hah lx
  generalize cls y = l2 at hah ly
  rw [hah]
  have CA := Lib.hid ca; have CB := Lib.hid cb; have GA := Lib.hid ga; have GB := Lib.hid gb; have KX := Lib.hid kx; have KY := Lib.hid ky; have LX := Lib.hid lx; have LY := Lib.hid ly
  clear hah ca cb ga gb kx ky lx ly gx gy hx hy hc hA
  have ha0 : (0 : Int) ≤ (a : Int) := by omega
  have han : (a : Int) < (n : Int) := by omega
  have hb0 : (0 : Int) ≤ (b : Int) := by omega
  have hbn : (b : Int) < (n : Int) := by omega
  by_cases t1 : p = q
  · subst t1
    by_cases t2 : r = s
    · subst t2
      rw [if_neg (by simp), if_neg (by simp)]
      have fin : ∀ (m1 m2 : Bool), (k1 == 3) = m1 → (k2 == 3) = m2 → Calls Try.prog 29 #[.slice (some ⟨bb, o, none⟩) n c, .int .i64 a, .int .i64 b] w fun e w' => e = .returned (.bool (if m1 != m2 then m2 else if l1 ≠ l2 then decide (l1 < l2) else decide (a < b))) ∧ ∃ d, w' = w.drewN d := by
        intro m1 m2 e1 e2
        cases m1 <;> cases m2
        · rw [if_neg (by simp)]
          by_cases t3 : l1 = l2
          · rw [if_neg (by simp [t3])]
            have t4 : (l1 != l2) = false := by simp [t3]
            clear t3
            go_enter Try.func29, Try.ntmps29
            go_wp2_with (first | (go_at_call 27; (with_reducible refine (CA.out _ HA.out).mono ?_); rintro e w' ⟨rfl, rfl⟩) | (go_at_call 27; (with_reducible refine (CB.out _ HA.out).mono ?_); rintro e w' ⟨rfl, rfl⟩) | (go_at_call 31; (with_reducible refine (GA.out _ HA.out).mono ?_); rintro e w' ⟨rfl, rfl⟩) | (go_at_call 31; (with_reducible refine (GB.out _ HA.out).mono ?_); rintro e w' ⟨rfl, rfl⟩) | (go_at_call 13; (with_reducible refine (KX.out _).mono ?_); rintro e w' ⟨rfl, rfl⟩) | (go_at_call 13; (with_reducible refine (KY.out _).mono ?_); rintro e w' ⟨rfl, rfl⟩))
            go_quiet ((first | (go_at_call 15; (with_reducible refine quiet_left (LX.out _))) | (go_at_call 15; (with_reducible refine quiet_left (LY.out _)))))
            go_wp2
            go_ret
            exact ⟨ret_bool (by simp), _, rfl⟩
          · rw [if_pos t3]
            have t4 : (l1 != l2) = true := by rw [bne_iff_ne]; exact t3
            clear t3
            go_enter Try.func29, Try.ntmps29
            go_wp2_with (first | (go_at_call 27; (with_reducible refine (CA.out _ HA.out).mono ?_); rintro e w' ⟨rfl, rfl⟩) | (go_at_call 27; (with_reducible refine (CB.out _ HA.out).mono ?_); rintro e w' ⟨rfl, rfl⟩) | (go_at_call 31; (with_reducible refine (GA.out _ HA.out).mono ?_); rintro e w' ⟨rfl, rfl⟩) | (go_at_call 31; (with_reducible refine (GB.out _ HA.out).mono ?_); rintro e w' ⟨rfl, rfl⟩) | (go_at_call 13; (with_reducible refine (KX.out _).mono ?_); rintro e w' ⟨rfl, rfl⟩) | (go_at_call 13; (with_reducible refine (KY.out _).mono ?_); rintro e w' ⟨rfl, rfl⟩))
            go_quiet ((first | (go_at_call 15; (with_reducible refine quiet_left (LX.out _))) | (go_at_call 15; (with_reducible refine quiet_left (LY.out _)))))
            go_wp2
            go_quiet ((first | (go_at_call 15; (with_reducible refine quiet_add_left (LX.out _))) | (go_at_call 15; (with_reducible refine quiet_add_left (LY.out _)))))
            go_wp2
            go_ret
            exact ⟨rfl, drN _ _ _⟩
        · rw [if_pos (by rfl)]
          go_enter Try.func29, Try.ntmps29
          go_wp2_with (first | (go_at_call 27; (with_reducible refine (CA.out _ HA.out).mono ?_); rintro e w' ⟨rfl, rfl⟩) | (go_at_call 27; (with_reducible refine (CB.out _ HA.out).mono ?_); rintro e w' ⟨rfl, rfl⟩) | (go_at_call 31; (with_reducible refine (GA.out _ HA.out).mono ?_); rintro e w' ⟨rfl, rfl⟩) | (go_at_call 31; (with_reducible refine (GB.out _ HA.out).mono ?_); rintro e w' ⟨rfl, rfl⟩) | (go_at_call 13; (with_reducible refine (KX.out _).mono ?_); rintro e w' ⟨rfl, rfl⟩) | (go_at_call 13; (with_reducible refine (KY.out _).mono ?_); rintro e w' ⟨rfl, rfl⟩))
          go_ret
          exact ⟨rfl, 0, rfl⟩
        · rw [if_pos (by rfl)]
          go_enter Try.func29, Try.ntmps29
          go_wp2_with (first | (go_at_call 27; (with_reducible refine (CA.out _ HA.out).mono ?_); rintro e w' ⟨rfl, rfl⟩) | (go_at_call 27; (with_reducible refine (CB.out _ HA.out).mono ?_); rintro e w' ⟨rfl, rfl⟩) | (go_at_call 31; (with_reducible refine (GA.out _ HA.out).mono ?_); rintro e w' ⟨rfl, rfl⟩) | (go_at_call 31; (with_reducible refine (GB.out _ HA.out).mono ?_); rintro e w' ⟨rfl, rfl⟩) | (go_at_call 13; (with_reducible refine (KX.out _).mono ?_); rintro e w' ⟨rfl, rfl⟩) | (go_at_call 13; (with_reducible refine (KY.out _).mono ?_); rintro e w' ⟨rfl, rfl⟩))
          go_ret
          exact ⟨rfl, 0, rfl⟩
        · rw [if_neg (by simp)]
          by_cases t3 : l1 = l2
          · rw [if_neg (by simp [t3])]
            have t4 : (l1 != l2) = false := by simp [t3]
            clear t3
            go_enter Try.func29, Try.ntmps29
            go_wp2_with (first | (go_at_call 27; (with_reducible refine (CA.out _ HA.out).mono ?_); rintro e w' ⟨rfl, rfl⟩) | (go_at_call 27; (with_reducible refine (CB.out _ HA.out).mono ?_); rintro e w' ⟨rfl, rfl⟩) | (go_at_call 31; (with_reducible refine (GA.out _ HA.out).mono ?_); rintro e w' ⟨rfl, rfl⟩) | (go_at_call 31; (with_reducible refine (GB.out _ HA.out).mono ?_); rintro e w' ⟨rfl, rfl⟩) | (go_at_call 13; (with_reducible refine (KX.out _).mono ?_); rintro e w' ⟨rfl, rfl⟩) | (go_at_call 13; (with_reducible refine (KY.out _).mono ?_); rintro e w' ⟨rfl, rfl⟩))
            go_quiet ((first | (go_at_call 15; (with_reducible refine quiet_left (LX.out _))) | (go_at_call 15; (with_reducible refine quiet_left (LY.out _)))))
            go_wp2
            go_ret
            exact ⟨ret_bool (by simp), _, rfl⟩
          · rw [if_pos t3]
            have t4 : (l1 != l2) = true := by rw [bne_iff_ne]; exact t3
            clear t3
            go_enter Try.func29, Try.ntmps29
            go_wp2_with (first | (go_at_call 27; (with_reducible refine (CA.out _ HA.out).mono ?_); rintro e w' ⟨rfl, rfl⟩) | (go_at_call 27; (with_reducible refine (CB.out _ HA.out).mono ?_); rintro e w' ⟨rfl, rfl⟩) | (go_at_call 31; (with_reducible refine (GA.out _ HA.out).mono ?_); rintro e w' ⟨rfl, rfl⟩) | (go_at_call 31; (with_reducible refine (GB.out _ HA.out).mono ?_); rintro e w' ⟨rfl, rfl⟩) | (go_at_call 13; (with_reducible refine (KX.out _).mono ?_); rintro e w' ⟨rfl, rfl⟩) | (go_at_call 13; (with_reducible refine (KY.out _).mono ?_); rintro e w' ⟨rfl, rfl⟩))
            go_quiet ((first | (go_at_call 15; (with_reducible refine quiet_left (LX.out _))) | (go_at_call 15; (with_reducible refine quiet_left (LY.out _)))))
            go_wp2
            go_quiet ((first | (go_at_call 15; (with_reducible refine quiet_add_left (LX.out _))) | (go_at_call 15; (with_reducible refine quiet_add_left (LY.out _)))))
            go_wp2
            go_ret
            exact ⟨rfl, drN _ _ _⟩
      exact fin _ _ rfl rfl
    · have t3 : ((r : Int) != (s : Int)) = true := by rw [bne_iff_ne]; omega
      rw [if_neg (by simp), if_pos t2]
      by_cases t4 : r = p
      · subst t4
        rw [if_pos rfl]
        go_enter Try.func29, Try.ntmps29
        go_wp2_with (first | (go_at_call 27; (with_reducible refine (CA.out _ HA.out).mono ?_); rintro e w' ⟨rfl, rfl⟩) | (go_at_call 27; (with_reducible refine (CB.out _ HA.out).mono ?_); rintro e w' ⟨rfl, rfl⟩) | (go_at_call 31; (with_reducible refine (GA.out _ HA.out).mono ?_); rintro e w' ⟨rfl, rfl⟩) | (go_at_call 31; (with_reducible refine (GB.out _ HA.out).mono ?_); rintro e w' ⟨rfl, rfl⟩) | (go_at_call 13; (with_reducible refine (KX.out _).mono ?_); rintro e w' ⟨rfl, rfl⟩) | (go_at_call 13; (with_reducible refine (KY.out _).mono ?_); rintro e w' ⟨rfl, rfl⟩))
        go_ret
        exact ⟨rfl, 0, rfl⟩
      · have t5 : ((r : Int) == (p : Int)) = false := by rw [beq_eq_false_iff_ne]; omega
        rw [if_neg t4]
        by_cases t6 : s = p
        · subst t6
          go_enter Try.func29, Try.ntmps29
          go_wp2_with (first | (go_at_call 27; (with_reducible refine (CA.out _ HA.out).mono ?_); rintro e w' ⟨rfl, rfl⟩) | (go_at_call 27; (with_reducible refine (CB.out _ HA.out).mono ?_); rintro e w' ⟨rfl, rfl⟩) | (go_at_call 31; (with_reducible refine (GA.out _ HA.out).mono ?_); rintro e w' ⟨rfl, rfl⟩) | (go_at_call 31; (with_reducible refine (GB.out _ HA.out).mono ?_); rintro e w' ⟨rfl, rfl⟩) | (go_at_call 13; (with_reducible refine (KX.out _).mono ?_); rintro e w' ⟨rfl, rfl⟩) | (go_at_call 13; (with_reducible refine (KY.out _).mono ?_); rintro e w' ⟨rfl, rfl⟩))
          go_ret
          exact ⟨ret_bool (by simp), 0, rfl⟩
        · have t7 : ((s : Int) == (p : Int)) = false := by rw [beq_eq_false_iff_ne]; omega
          go_enter Try.func29, Try.ntmps29
          go_wp2_with (first | (go_at_call 27; (with_reducible refine (CA.out _ HA.out).mono ?_); rintro e w' ⟨rfl, rfl⟩) | (go_at_call 27; (with_reducible refine (CB.out _ HA.out).mono ?_); rintro e w' ⟨rfl, rfl⟩) | (go_at_call 31; (with_reducible refine (GA.out _ HA.out).mono ?_); rintro e w' ⟨rfl, rfl⟩) | (go_at_call 31; (with_reducible refine (GB.out _ HA.out).mono ?_); rintro e w' ⟨rfl, rfl⟩) | (go_at_call 13; (with_reducible refine (KX.out _).mono ?_); rintro e w' ⟨rfl, rfl⟩) | (go_at_call 13; (with_reducible refine (KY.out _).mono ?_); rintro e w' ⟨rfl, rfl⟩))
          go_ret
          exact ⟨ret_bool (by simp [t6]), 0, rfl⟩
  · have t3 : ((p : Int) != (q : Int)) = true := by rw [bne_iff_ne]; omega
    rw [if_pos t1]
    go_enter Try.func29, Try.ntmps29
    go_wp2_with (first | (go_at_call 27; (with_reducible refine (CA.out _ HA.out).mono ?_); rintro e w' ⟨rfl, rfl⟩) | (go_at_call 27; (with_reducible refine (CB.out _ HA.out).mono ?_); rintro e w' ⟨rfl, rfl⟩) | (go_at_call 31; (with_reducible refine (GA.out _ HA.out).mono ?_); rintro e w' ⟨rfl, rfl⟩) | (go_at_call 31; (with_reducible refine (GB.out _ HA.out).mono ?_); rintro e w' ⟨rfl, rfl⟩) | (go_at_call 13; (with_reducible refine (KX.out _).mono ?_); rintro e w' ⟨rfl, rfl⟩) | (go_at_call 13; (with_reducible refine (KY.out _).mono ?_); rintro e w' ⟨rfl, rfl⟩))
    go_ret
    exact ⟨ret_bool (by simp), 0, rfl⟩

set_option maxHeartbeats 2000000 in
theorem rorder_c (A : Option Addr) (n c : Nat) (xs : List Int) (w : World) (hA : Rd w w.heap.size A n xs) (hn : n ≤ 1000000) :
    Calls Try.prog 23 #[.slice A n c] w fun e w' => ∃ A' c', e = .returned (.slice A' n c') ∧ Ow w' w.heap.size A' n c' (rorder xs) ∧ Below w.heap.size w w' := by
  have HL := Lib.hid hA.len
  go_enter Try.func23, Try.ntmps23
  go_wp2_with (at_make; refine mkI rfl _ _ rfl w w.heap.size n _ _ (by rfl) (by rfl) rfl rfl hn (Nat.le_refl _) ?_; intro w1 ho1 hb1 hz1)
  go_loopw [4] (fun i wr => ∃ (k : Nat), k ≤ n ∧ i = .int .i64 k ∧ Ow wr w.heap.size (some ⟨w.heap.size, 0, none⟩) n n (rordTo xs k) ∧ Below w.heap.size w wr) (fun i _ => n - (intOf i).toNat)
  case atStart =>
    refine ⟨0, by omega, rfl, ?_, hb1⟩
    have : rordTo xs 0 = List.replicate n 0 := by simp [rordTo, HL.out]
    rw [this]; exact ho1
  case round =>
    obtain ⟨k, hk, rfl, hO, hB⟩ := hrel
    clear ho1 hb1 hz1
    obtain ⟨wo, rfl⟩ : ∃ wo : World, wo = wr := ⟨_, rfl⟩
    by_cases hlt : k < n
    · have hAr := (hA.below hB).more hB.size
      have HAR := Lib.hid hAr; clear hAr
      have hct := cnt_lt xs k n hlt
      have hset := rordTo_succ xs k
      rw [HL.out] at hset
      have HSET := Lib.hid hset; clear hset
      go_wp2
      go_loopw [5, 6] (fun m j wr => ∃ (q d : Nat), q ≤ n ∧ j = .int .i64 q ∧ m = .int .i64 (cnt xs k q : Nat) ∧ wr = wo.drewN d) (fun _ j _ => n - (intOf j).toNat)
      case atStart => exact ⟨0, 0, by omega, rfl, rfl, rfl⟩
      case round =>
        obtain ⟨q, d, hq, rfl, rfl, rfl⟩ := hrel
        have hcl := cnt_le xs k q
        by_cases hlq : q < n
        · have hcs := cnt_succ xs k q
          by_cases hqk : q = k
          · subst hqk
            rw [if_neg (by simp)] at hcs
            have HCS := Lib.hid hcs; clear hcs
            go_wp2
            go_roundw
            case rel => exact ⟨q + 1, d, by omega, by go_num, by rw [HCS.out]; rfl, rfl⟩
            case measure => simp [intOf]; omega
          · have t1 : ((q : Int) != (k : Int)) = true := by rw [bne_iff_ne]; omega
            have ac := fun d => ahead_c A n c q k xs (wo.drewN d) (HAR.out.drewN d) hn hlq hlt
            cases hb : aheadB xs q k
            · rw [if_neg (by simp [hb])] at hcs
              rw [hb] at ac
              have HCS := Lib.hid hcs; have AC := Lib.hid ac; clear hcs ac hb
              go_wp2_with (go_at_call 29; refine (AC.out _).mono ?_; rintro e w' ⟨rfl, d', rfl⟩)
              go_roundw
              case rel => exact ⟨q + 1, d + d', by omega, by go_num, by rw [HCS.out]; rfl, by simp⟩
              case measure => simp [intOf]; omega
            · rw [if_pos ⟨hqk, hb⟩] at hcs
              rw [hb] at ac
              have HCS := Lib.hid hcs; have AC := Lib.hid ac; clear hcs ac hb
              go_wp2_with (go_at_call 29; refine (AC.out _).mono ?_; rintro e w' ⟨rfl, d', rfl⟩)
              go_roundw
              case rel => exact ⟨q + 1, d + d', by omega, by go_num, by rw [HCS.out]; go_num, by simp⟩
              case measure => simp [intOf]; omega
        · obtain rfl : q = n := by omega
          have hfr := hO.frozen (cnt xs k q)
          obtain ⟨u, hu⟩ := getD_some (rordTo xs k) (cnt xs k q) (by rw [hO.len]; omega)
          have c2 := hO.cell hu
          clear hu
          go_wp2
          go_roundw
          case rel =>
            refine ⟨k + 1, by omega, by go_num, ?_, (below_drewN hB _).setCell (by simp) _⟩
            rw [HSET.out]; exact (hO.drewN d).stored _ _
          case measure => simp [intOf]; omega
    · go_wp2
      go_ret
      obtain rfl : k = n := by omega
      refine ⟨_, _, rfl, ?_, hB⟩
      unfold rorder; rw [HL.out]; exact hO

end Go.Proofs.Ytdacfcfgikllpaa
