/- Walks: the sort's comparer, insertion sort, swapRange, rotate. -/
import Derived.Test.YtdacfcfgikllpaaW6
import Derived.Test.YtdacfcfgikllpaaSort
import Derived.RegionTactic
import Derived.CellFam
namespace Go.Proofs.Ytdacfcfgikllpaa
open Go.RowKit

def cmp3 (a b : Int) : Int := if a < b then -1 else if b < a then 1 else 0

set_option maxHeartbeats 400000 in
theorem compare_c (a b : Int) (w : World) :
    Calls Try.prog 34 #[.int .i64 a, .int .i64 b] w fun e w' => e = .returned (.int .i64 (cmp3 a b)) ∧ w = w' := by
  by_cases h1 : a < b
  · have hv : cmp3 a b = -1 := by unfold cmp3; rw [if_pos h1]
    rw [hv]; clear hv
    go_enter Try.func34, Try.ntmps34
    go_wp2
    go_ret
    exact ⟨rfl, rfl⟩
  · by_cases h2 : b < a
    · have hv : cmp3 a b = 1 := by unfold cmp3; rw [if_neg h1, if_pos h2]
      rw [hv]; clear hv
      go_enter Try.func34, Try.ntmps34
      go_wp2
      go_ret
      exact ⟨rfl, rfl⟩
    · have hv : cmp3 a b = 0 := by unfold cmp3; rw [if_neg h1, if_neg h2]
      rw [hv]; clear hv
      go_enter Try.func34, Try.ntmps34
      go_wp2
      go_ret
      exact ⟨rfl, rfl⟩

/-- What a sort of marks goes by. -/
structure SP where
  base : Nat
  g : Nat
  N : Nat
  c : Nat
  L : Nat
  B1 : Nat
  n : Nat
  cc : Nat
  Bd : Nat
  A : Option Addr
  z0 : List Int
  xs : List Int

def SP.K (S : SP) (p : Nat) : Int := cls (S.xs.getD p 0)
structure SP.Ok (S : SP) : Prop where
  len : S.z0.length + S.L = S.N
  bd : S.Bd ≤ S.g
  ne : S.B1 ≠ S.g
  hN : S.N ≤ 1000000
  hn : S.n ≤ 1000000
structure SP.St (S : SP) (w : World) (f : Nat → Nat) : Prop where
  own : Ow w S.base (some ⟨S.g, 0, none⟩) S.N S.c (S.z0 ++ (List.range S.L).map (fun i => ((f i : Nat) : Int)))
  box : w.cell? ⟨S.B1, 0, none⟩ = some (.slice S.A S.n S.cc)
  rd : Rd w S.Bd S.A S.n S.xs
  lt : ∀ i, i < S.L → f i < S.n

theorem set_range (z0 : List Int) (L i x : Nat) (f : Nat → Nat) (_hi : i < L) :
    (z0 ++ (List.range L).map (fun t => ((f t : Nat) : Int))).set (z0.length + i) (x : Int) = z0 ++ (List.range L).map (fun t => ((updF f i x t : Nat) : Int)) := by
  rw [List.set_append_right _ _ (by omega)]
  congr 1
  apply List.ext_getElem?
  intro j
  rw [show z0.length + i - z0.length = i by omega, List.getElem?_set]
  by_cases h : i = j
  · subst h; simp [updF, _hi]
  · rw [if_neg h]
    simp only [List.getElem?_map]
    by_cases hj : j < L
    · rw [List.getElem?_range hj]; simp [updF, Ne.symm h]
    · rw [List.getElem?_eq_none (by simp; omega)]; rfl

section
variable {S : SP} {w w' : World} {f : Nat → Nat}
theorem SP.St.cell (h : S.St w f) {i : Nat} (hi : i < S.L) : w.cell? ⟨S.g, S.z0.length + i, none⟩ = some (.int .i64 (f i : Nat)) :=
  h.own.cell (by rw [List.getElem?_append_right (by omega)]; simp [hi])
theorem SP.St.frozen (h : S.St w f) (j : Nat) : w.frozen? ⟨S.g, j, none⟩ = false := h.own.frozen j
theorem SP.St.drewN (h : S.St w f) (k : Nat) : S.St (w.drewN k) f := ⟨h.own, h.box, h.rd, h.lt⟩
theorem SP.St.upd (h : S.St w f) (hS : S.Ok) {i x : Nat} (hi : i < S.L) (hx : x < S.n) : S.St (w.setCell ⟨S.g, S.z0.length + i, none⟩ (.int .i64 (x : Nat))) (updF f i x) := by
  refine ⟨?_, ?_, ?_, ?_⟩
  · rw [← set_range _ _ _ _ _ hi]; exact h.own.stored _ _
  · rw [World.cell?_setCell_other]
    · exact h.box
    · intro e; injection e with e1; exact hS.ne e1.symm
  · exact h.rd.setCell hS.bd _
  · intro t ht; unfold updF; split
    · exact hx
    · exact h.lt t ht
theorem SP.St.swap (h : S.St w f) (hS : S.Ok) {i j : Nat} (hi : i < S.L) (hj : j < S.L) :
    S.St ((w.setCell ⟨S.g, S.z0.length + i, none⟩ (.int .i64 (f j : Nat))).setCell ⟨S.g, S.z0.length + j, none⟩ (.int .i64 (f i : Nat))) (swp f i j) := by
  have h2 := (h.upd hS hi (h.lt j hj)).upd hS hj (h.lt i hi)
  have e : updF (updF f i (f j)) j (f i) = swp f i j := by
    funext t
    unfold updF swp
    by_cases c1 : t = j
    · rw [if_pos c1]
      by_cases c2 : t = i
      · rw [if_pos c2, ← c1, c2]
      · rw [if_neg c2, if_pos c1]
    · rw [if_neg c1]
      by_cases c2 : t = i
      · rw [if_pos c2, if_pos c2]
      · rw [if_neg c2, if_neg c2, if_neg c1]
  rw [e] at h2; exact h2
end

set_option maxHeartbeats 1000000 in
theorem less_c (S : SP) (f : Nat → Nat) (w : World) (hS : S.Ok) (h : S.St w f) (p q : Nat) (hp : p < S.n) (hq : q < S.n) :
    Calls Try.prog 33 #[.int .i64 (p : Nat), .int .i64 (q : Nat), .pointer (some ⟨S.B1, 0, none⟩)] w fun e w' => e = .returned (.int .i64 (cmp3 (S.K p) (S.K q))) ∧ ∃ d, w' = w.drewN d := by
  have HL := Lib.hid h.rd.len
  have hb := h.box
  obtain ⟨b, o, hA, _, hc⟩ := h.rd.pos (by omega)
  obtain ⟨x, hx⟩ := getD_some S.xs p (by have := HL.out; omega)
  obtain ⟨y, hy⟩ := getD_some S.xs q (by have := HL.out; omega)
  have c1 := hc p x hx
  have c2 := hc q y hy
  have k1 : S.K p = cls x := by unfold SP.K; rw [getD_of hx]
  have k2 : S.K q = cls y := by unfold SP.K; rw [getD_of hy]
  rw [k1, k2]
  rw [hA] at hb
  have hn := hS.hn
  clear hx hy k1 k2 hA hc h hS
  generalize S.n = n at *
  generalize S.cc = cc at *
  generalize S.B1 = B1 at *
  have hp0 : (0 : Int) ≤ (p : Int) := by omega
  have hpn : (p : Int) < (n : Int) := by omega
  have hq0 : (0 : Int) ≤ (q : Int) := by omega
  have hqn : (q : Int) < (n : Int) := by omega
  go_enter Try.func33, Try.ntmps33
  go_wp2
  go_quiet ((first | (go_at_call 14; (with_reducible refine quiet_left (class_c _ _))) | (go_at_call 34; (with_reducible refine quiet_left (compare_c _ _ _)))))
  go_wp2
  go_ret
  exact ⟨rfl, _, rfl⟩

theorem cmp3_lt {a b : Int} (h : a < b) : decide (cmp3 a b < 0) = true := by unfold cmp3; simp [h]
theorem cmp3_ge {a b : Int} (h : ¬ a < b) : decide (cmp3 a b < 0) = false := by unfold cmp3; rw [if_neg h]; split <;> simp
theorem quiet_d {P : Program} {f : FuncId} {args : Array Value} {w : World} {n : Nat} {v : Value}
    (h : Calls P f args (w.drewN n) fun e w' => e = .returned v ∧ ∃ d, w' = (w.drewN n).drewN d) : Calls P f args (w.drewN n) fun e w'' => e = .returned v ∧ ∃ m, w'' = w.drewN m :=
  h.mono fun _ _ ⟨he, d, hm⟩ => ⟨he, n + d, by rw [hm]; simp⟩

set_option maxHeartbeats 2000000 in
theorem ins_c (S : SP) (f0 : Nat → Nat) (w : World) (C a b : Nat) (hS : S.Ok) (h : S.St w f0) (hab : a ≤ b) (hbL : b ≤ S.L) (hinc : Inc f0 a b) :
    Calls Try.prog 37 #[.slice (some ⟨S.g, S.z0.length, none⟩) S.L C, .int .i64 a, .int .i64 b, .func (.func 33) #[] #[.pointer (some ⟨S.B1, 0, none⟩)]] w fun e w' => e = .returned (.tuple #[]) ∧
      ∃ f', S.St w' f' ∧ Prm f0 f' a b ∧ Srt S.K f' a b ∧ w.grownBy w' (some S.g) := by
  have hLn : S.L ≤ 1000000 := by have := hS.len; have := hS.hN; omega
  have HINC := Lib.hid hinc; clear hinc
  go_enter Try.func37, Try.ntmps37
  go_wp2
  go_loopw [8] (fun vi wr => ∃ (i : Nat) (f : Nat → Nat), vi = .int .i64 i ∧ a + 1 ≤ i ∧ S.St wr f ∧ Prm f0 f a (min i b) ∧ Srt S.K f a i ∧ w.grownBy wr (some S.g)) (fun vi _ => b - (intOf vi).toNat)
  case atStart => exact ⟨a + 1, f0, by go_num, by omega, h, Prm.refl _ _ _, Srt.small (by omega), World.grownBy.refl w _⟩
  case round =>
    obtain ⟨i, f, rfl, hai, hst, hpr, hsr, hgr⟩ := hrel
    obtain ⟨wo, rfl⟩ : ∃ wo : World, wo = wr := ⟨_, rfl⟩
    by_cases hlt : i < b
    · have hmin : min i b = i := by omega
      rw [hmin] at hpr
      have hins : Ins S.K f a i i := Ins.start (by omega) hsr (fun x h1 h2 => by
        obtain ⟨j, j1, j2, e⟩ := hpr.2.1 x h1 h2
        rw [e, hpr.out (.inr (Nat.le_refl _))]
        exact HINC.out j i j1 j2 hlt)
      have HPR := Lib.hid hpr
      clear hmin hpr hsr
      go_wp2
      go_loopw [9] (fun vj wr => ∃ (j : Nat) (f2 : Nat → Nat), vj = .int .i64 j ∧ Ins S.K f2 a j i ∧ S.St wr f2 ∧ Prm f0 f2 a (i + 1) ∧ w.grownBy wr (some S.g)) (fun vj _ => (intOf vj).toNat)
      case atStart => exact ⟨i, f, by go_num, hins, hst, HPR.out.mono (Nat.le_refl _) (by omega), hgr⟩
      case round =>
        obtain ⟨j, f2, rfl, hin2, hst2, hpr2, hgr2⟩ := hrel
        have hj1 := hin2.1
        have hj2 := hin2.2.1
        have HIN := Lib.hid hin2; have HPR2 := Lib.hid hpr2
        clear hst hins hgr hin2 hpr2
        have out : (j = a ∨ ¬ S.K (f2 j) < S.K (f2 (j - 1))) → ∀ q, ∃ (i' : Nat) (f' : Nat → Nat), Value.int .i64 ((i : Int) + 1) = .int .i64 i' ∧ a + 1 ≤ i' ∧ S.St (wr.drewN q) f' ∧ Prm f0 f' a (min i' b) ∧ Srt S.K f' a i' ∧ w.grownBy (wr.drewN q) (some S.g) := fun hs q =>
          ⟨i + 1, f2, by go_num, by omega, hst2.drewN q, by rw [show min (i + 1) b = i + 1 by omega]; exact HPR2.out, HIN.out.stop hs, grownBy_drewN hgr2 q⟩
        have OUT := Lib.hid out; clear out
        by_cases hja : a < j
        · have hcw : ∀ t, t < S.L → wr.cell? ⟨S.g, S.z0.length + t, none⟩ = some (.int .i64 (f2 t : Nat)) := fun t ht => hst2.cell ht
          have hfw : ∀ t, t < S.L → wr.frozen? ⟨S.g, S.z0.length + t, none⟩ = false := fun t _ => hst2.frozen _
          have lc := fun q => less_c S f2 (wr.drewN q) hS (hst2.drewN q) (f2 j) (f2 (j - 1)) (hst2.lt _ (by omega)) (hst2.lt _ (by omega))
          have LC := Lib.hid lc; clear lc
          have HST := Lib.hid hst2; clear hst2
          by_cases hk : S.K (f2 j) < S.K (f2 (j - 1))
          · have t1 := cmp3_lt hk
            have HK := Lib.hid hk; clear hk
            go_wp2
            go_quiet ((go_at_call 33; exact quiet_d (LC.out _)))
            go_wp2
            go_region
            all_goals go_wp2
            go_roundw
            case rel =>
              refine ⟨j - 1, swp f2 j (j - 1), by congr 1; omega, HIN.out.step hja HK.out, ?_, HPR2.out.trans (Prm.swp f2 (by omega) (by omega)), ?_⟩
              · exact (HST.out.drewN _).swap hS (by omega) (by omega)
              · exact grownBy_set (grownBy_set (grownBy_drewN hgr2 _) _ _) _ _
            case measure => simp [intOf]; omega
          · have t1 := cmp3_ge hk
            have HK := Lib.hid hk; clear hk
            go_wp2
            go_quiet ((go_at_call 33; exact quiet_d (LC.out _)))
            go_wp2
            go_roundw
            case rel => exact OUT.out (.inr HK.out) _
            case measure => simp [intOf]; omega
        · go_wp2
          go_quiet (fail)
          go_wp2
          go_roundw
          case rel => exact OUT.out (.inl (by omega)) _
          case measure => simp [intOf]; omega
    · go_wp2
      go_end0
      refine ⟨rfl, f, hst, ?_, hsr.sub (Nat.le_refl _) (by omega), hgr⟩
      rw [show min i b = b by omega] at hpr
      exact hpr

set_option maxHeartbeats 2000000 in
theorem swapRange_c (S : SP) (f0 : Nat → Nat) (w : World) (C a b n : Nat) (cv : Value) (hS : S.Ok) (h : S.St w f0) (hab : a + n ≤ b) (hbL : b + n ≤ S.L) :
    Calls Try.prog 40 #[.slice (some ⟨S.g, S.z0.length, none⟩) S.L C, .int .i64 a, .int .i64 b, .int .i64 n, cv] w fun e w' => e = .returned (.tuple #[]) ∧
      S.St w' (swR f0 a b n) ∧ w.grownBy w' (some S.g) := by
  have hLn : S.L ≤ 1000000 := by have := hS.len; have := hS.hN; omega
  go_enter Try.func40, Try.ntmps40
  go_wp2
  go_loopw [10] (fun vi wr => ∃ (i : Nat), vi = .int .i64 i ∧ i ≤ n ∧ S.St wr (swR f0 a b i) ∧ w.grownBy wr (some S.g)) (fun vi _ => n - (intOf vi).toNat)
  case atStart => exact ⟨0, by go_num, by omega, by rw [swR_zero]; exact h, World.grownBy.refl w _⟩
  case round =>
    obtain ⟨i, rfl, hin, hst, hgr⟩ := hrel
    by_cases hlt : i < n
    · have HSU := Lib.hid (swR_succ f0 a b i (by omega))
      generalize swR f0 a b i = f2 at hst HSU
      have hcw : ∀ t, t < S.L → wr.cell? ⟨S.g, S.z0.length + t, none⟩ = some (.int .i64 (f2 t : Nat)) := fun t ht => hst.cell ht
      have hfw : ∀ t, t < S.L → wr.frozen? ⟨S.g, S.z0.length + t, none⟩ = false := fun t _ => hst.frozen _
      have HST := Lib.hid hst; clear hst
      go_wp2
      go_region
      all_goals go_wp2
      go_roundw
      case rel =>
        refine ⟨i + 1, by go_num, by omega, ?_, ?_⟩
        · rw [HSU.out]; exact (HST.out.swap hS (by omega) (by omega)).drewN 1
        · exact grownBy_drewN (grownBy_set (grownBy_set hgr _ _) _ _) 1
      case measure => simp [intOf]; omega
    · obtain rfl : i = n := by omega
      go_wp2
      go_end0
      exact ⟨rfl, hst, hgr⟩

theorem swapRange_i (S : SP) (f0 : Nat → Nat) (w : World) (C : Nat) (a b n : Int) (cv : Value) (hS : S.Ok) (h : S.St w f0) (ha : 0 ≤ a) (hn : 0 ≤ n) (hab : a + n ≤ b) (hbL : b + n ≤ S.L) :
    Calls Try.prog 40 #[.slice (some ⟨S.g, S.z0.length, none⟩) S.L C, .int .i64 a, .int .i64 b, .int .i64 n, cv] w fun e w' => e = .returned (.tuple #[]) ∧
      S.St w' (swR f0 a.toNat b.toNat n.toNat) ∧ w.grownBy w' (some S.g) := by
  obtain ⟨a', rfl⟩ := Int.eq_ofNat_of_zero_le ha
  obtain ⟨b', rfl⟩ := Int.eq_ofNat_of_zero_le (show 0 ≤ b by omega)
  obtain ⟨n', rfl⟩ := Int.eq_ofNat_of_zero_le hn
  simp only [Int.toNat_natCast]
  exact swapRange_c S f0 w C a' b' n' cv hS h (by omega) (by omega)

set_option maxHeartbeats 2000000 in
theorem rotate_c (S : SP) (f0 : Nat → Nat) (w : World) (C a m b : Nat) (cv : Value) (hS : S.Ok) (h : S.St w f0) (ham : a < m) (hmb : m < b) (hbL : b ≤ S.L) :
    Calls Try.prog 39 #[.slice (some ⟨S.g, S.z0.length, none⟩) S.L C, .int .i64 a, .int .i64 m, .int .i64 b, cv] w fun e w' => e = .returned (.tuple #[]) ∧
      S.St w' (rot f0 a m b) ∧ w.grownBy w' (some S.g) := by
  have hLn : S.L ≤ 1000000 := by have := hS.len; have := hS.hN; omega
  go_enter Try.func39, Try.ntmps39
  go_wp2
  go_loopw [10, 11] (fun vi vj wr => ∃ (i j : Nat) (f : Nat → Nat), vi = .int .i64 i ∧ vj = .int .i64 j ∧ 0 < i ∧ 0 < j ∧ i ≤ m - a ∧ j ≤ b - m ∧ rot f (m - i) m (m + j) = rot f0 a m b ∧ S.St wr f ∧ w.grownBy wr (some S.g)) (fun vi vj _ => (intOf vi).toNat + (intOf vj).toNat)
  case atStart => exact ⟨m - a, b - m, f0, by go_num, by go_num, by omega, by omega, by omega, by omega, by rw [show m - (m - a) = a by omega, show m + (b - m) = b by omega], h, World.grownBy.refl w _⟩
  case round =>
    obtain ⟨i, j, f, rfl, rfl, hi, hj, him, hjb, hrot, hst, hgr⟩ := hrel
    have HR := Lib.hid hrot; clear hrot
    by_cases hij : i = j
    · subst hij
      have HRE := Lib.hid (rot_eq f m i (by omega))
      go_wp2_with (go_at_call 40; refine (swapRange_i S f _ _ _ _ _ _ hS hst (by omega) (by omega) (by omega) (by omega)).mono ?_; rintro e w2 ⟨rfl, hst2, hgr2⟩)
      go_end0
      refine ⟨rfl, ?_, hgr.trans hgr2⟩
      rw [← HR.out, HRE.out]
      have e1 : ((m : Int) - (i : Int)).toNat = m - i := by omega
      simpa [e1] using hst2
    · have t1 : ((i : Int) != (j : Int)) = true := by rw [bne_iff_ne]; omega
      by_cases hgt : j < i
      · have HRE := Lib.hid (rot_gt f m i j (by omega) hgt hj)
        go_wp2_with (go_at_call 40; refine (swapRange_i S f _ _ _ _ _ _ hS hst (by omega) (by omega) (by omega) (by omega)).mono ?_; rintro e w2 ⟨rfl, hst2, hgr2⟩)
        go_roundw
        case rel =>
          refine ⟨i - j, j, swR f (m - i) m j, by go_num, rfl, by omega, hj, by omega, hjb, ?_, ?_, hgr.trans hgr2⟩
          · rw [← HR.out, HRE.out]
          · have e1 : ((m : Int) - (i : Int)).toNat = m - i := by omega
            simpa [e1] using hst2
        case measure => simp [intOf]; omega
      · have HRE := Lib.hid (rot_lt f m i j (by omega) (by omega) hi)
        go_wp2_with (go_at_call 40; refine (swapRange_i S f _ _ _ _ _ _ hS hst (by omega) (by omega) (by omega) (by omega)).mono ?_; rintro e w2 ⟨rfl, hst2, hgr2⟩)
        go_roundw
        case rel =>
          refine ⟨i, j - i, swR f (m - i) (m + j - i) i, rfl, by go_num, hi, by omega, him, by omega, ?_, ?_, hgr.trans hgr2⟩
          · rw [← HR.out, HRE.out]
          · have e1 : ((m : Int) - (i : Int)).toNat = m - i := by omega
            have e2 : ((m : Int) + (j : Int) - (i : Int)).toNat = m + j - i := by omega
            simpa [e1, e2] using hst2
        case measure => simp [intOf]; omega

end Go.Proofs.Ytdacfcfgikllpaa
