/- Walks: SetsHave (printed by tools/c06_w16.py). -/
import Derived.Test.YtladdpfngoldcaaW14
import Derived.Deep.RegionHeldLaw
namespace Go.Proofs.Ytladdpfngoldcaa
open Go.RowKit
attribute [local go_sem ↓] Go.wp_at_zero Go.wp_at_succ

theorem same_len : ∀ (l1 l2 : List Int), l1.Nodup → l2.Nodup → (∀ x, x ∈ l1 ↔ x ∈ l2) → l1.length = l2.length
  | [], l2, _, _, h => by
    cases l2 with
    | nil => rfl
    | cons b t => exact absurd ((h b).2 (by simp)) (by simp)
  | a :: t, l2, h1, h2, h => by
    rw [List.nodup_cons] at h1
    have ha : a ∈ l2 := (h a).1 (by simp)
    have := same_len t (l2.erase a) h1.2 (h2.erase a) (fun x => by
      rw [h2.mem_erase_iff]
      constructor
      · intro hx
        exact ⟨fun e => h1.1 (by rw [← e]; exact hx), (h x).1 (by simp [hx])⟩
      · rintro ⟨hne, hx⟩
        rcases List.mem_cons.1 ((h x).2 hx) with e | e
        · exact absurd e hne
        · exact e)
    rw [List.length_erase_of_mem ha] at this
    have hp : 0 < l2.length := List.length_pos_of_mem ha
    simp only [List.length_cons]; omega
theorem srt_nodup {S : List Int} (h : Srt S) : S.Nodup := List.Pairwise.imp (fun h => by omega) h
theorem have_len (X Y : List Int) : (ofL (X ++ Y)).length + (siftL X Y true).length = (ofL X).length + (ofL Y).length := by
  have e1 : (ofL (X ++ Y)).length = (ofL X ++ siftL Y X false).length := by
    apply same_len _ _ (srt_nodup (ofL_srt _))
    · rw [List.nodup_append]
      refine ⟨srt_nodup (ofL_srt _), srt_nodup (siftL_srt _ _ _), fun a ha b hb e => ?_⟩
      subst e
      exact (mem_minus.1 hb).2 ((ofL_mem _ _).1 ha)
    · intro x
      rw [mem_union, List.mem_append, ofL_mem, mem_minus]
      by_cases h1 : x ∈ X <;> by_cases h2 : x ∈ Y <;> simp [h1, h2]
  have e2 : siftL X Y true = siftL Y X true := by
    rw [srt_eq (siftL_srt _ _ _) (siftL_srt _ _ _)]
    intro x; rw [mem_meet, mem_meet]; exact ⟨fun h => ⟨h.2, h.1⟩, fun h => ⟨h.2, h.1⟩⟩
  have e3 : (siftL Y X true).length + (siftL Y X false).length = (ofL Y).length := by
    unfold siftL
    generalize ofL Y = T
    induction T with
    | nil => rfl
    | cons y T ih =>
      by_cases h : y ∈ X <;> simp [h] <;> simp at ih <;> omega
  rw [e1, e2, List.length_append]; omega
theorem have_u (X Y : List Int) (v : Int) : decide (v ∈ ofL (X ++ Y)) = (decide (v ∈ X) || decide (v ∈ Y)) := by rw [Bool.eq_iff_iff]; simp [mem_union]
theorem have_m (X Y : List Int) (v : Int) : decide (v ∈ siftL X Y true) = (decide (v ∈ X) && decide (v ∈ Y)) := by rw [Bool.eq_iff_iff]; simp [mem_meet]
theorem have_d (X Y : List Int) (v : Int) : decide (v ∈ siftL X Y false) = (decide (v ∈ X) && !decide (v ∈ Y)) := by rw [Bool.eq_iff_iff]; simp [mem_minus]
theorem have_o (X : List Int) (v : Int) : decide (v ∈ ofL X) = decide (v ∈ X) := by rw [Bool.eq_iff_iff]; simp [ofL_mem]
theorem right_t (A : Option Addr) (n c : Nat) (xs : List Int) (w : World) (hA : Rd w w.heap.size A n xs) (hn : n ≤ 1000000000) (h : Srt xs) :
    Calls Try.prog 29 #[.slice A n c] w fun e w' => e = .returned (.bool true) ∧ Below w.heap.size w w' :=
  (right_b A n c xs w hA hn).mono fun e w' ⟨he, hb⟩ => ⟨by rw [he, decide_eq_true h], hb⟩

set_option maxRecDepth 100000 in
set_option maxHeartbeats 40000000 in
theorem setsHave_walk (a0 : Option Addr) (len0 cap0 : Nat) (z0 : List Int) (a1 : Option Addr) (len1 cap1 : Nat) (z1 : List Int) (a2 : Int) (w : World) (w0 : IsRow .i64 w a0 len0 cap0 z0) (w1 : IsRow .i64 w a1 len1 cap1 z1) (_w2 : (Lit.int .i64 a2).wf = true) :
    Calls Try.prog 11 #[.slice a0 len0 cap0, .slice a1 len1 cap1, .int .i64 a2] w fun e w' => e = .returned (.bool true) ∧ Below w.heap.size w w' := by
  obtain ⟨p0, hlc0, hcm0⟩ := w0.rd
  obtain ⟨p1, hlc1, hcm1⟩ := w1.rd
  clear w0 w1
  have b0 := Below.refl w.heap.size w
  go_enter Try.func11, Try.ntmps11
  go_wp2_with fail
  refine (lshown_c _  ).mono ?_
  rintro e w1 ⟨rfl, hb1⟩
  have b1 := below_call b0 hb1
  have p01 := p0.call (Nat.le_refl _) hb1
  have p11 := p1.call (Nat.le_refl _) hb1
  clear b0 hb1 p0 p1
  go_wp2_with fail
  refine (few_c _ _ _ _ _ p01 hlc0 hcm0).mono ?_
  rintro e w2 ⟨A2, cp2, rfl, ho2, hb2⟩
  have b2 := below_call b1 hb2
  have p02 := p01.call (Nat.le_refl _) hb2
  have p12 := p11.call (Nat.le_refl _) hb2
  have x2 := ho2.rd
  clear b1 hb2 p01 p11 ho2 p02
  go_wp2_with fail
  refine (few_c _ _ _ _ _ p12 hlc1 hcm1).mono ?_
  rintro e w3 ⟨A3, cp3, rfl, ho3, hb3⟩
  have b3 := below_call b2 hb3
  have p13 := p12.call (Nat.le_refl _) hb3
  have x3 := x2.call (Nat.le_refl _) hb3
  have y3 := ho3.rd
  clear b2 hb3 p12 x2 ho3 p13
  have n0 : min len0 40 ≤ 40 := by omega
  generalize (z0.take len0).take 40 = X at *
  generalize min len0 40 = nx at *
  have n1 : min len1 40 ≤ 40 := by omega
  generalize (z1.take len1).take 40 = Y at *
  generalize min len1 40 = ny at *
  go_wp2_with first
    | (at_builtin; refine appS rfl (.tmp 23) (.tmp 24) rfl _ w3.heap.size _ _ _ [a2] _ _ _ _ _ (by rfl) (by rfl) (own_lit1 w3 _ (Nat.le_refl _) a2) (x3.alloc (Nat.le_refl _) _) (by omega) (by simp) ?_; intro A5 c5 w5 ho5 hg5 hb5 hat5 hcap5; have bb5 := ((Below.refl w3.heap.size w3).alloc (Nat.le_refl _) (.cells #[.int .i64 a2] 3)).trans hb5; clear hg5 hat5 hcap5 hb5; have bs5 := bb5.size)
    | (at_builtin; refine appS rfl (.tmp 25) (.tmp 26) rfl w5 w3.heap.size _ _ _ _ _ _ _ _ _ (by rfl) (by rfl) ho5 (y3.below bb5) (by omega) bs5 ?_; intro A6 c6 w6 ho6 hg6 hb6 hat6 hcap6; have bb6 := bb5.trans hb6; clear hg6 hat6 hcap6 hb6)
  have b6 := below_call b3 bb6
  have x6 := x3.call (Nat.le_refl _) bb6
  have y6 := y3.call (Nat.le_refl _) bb6
  have al6 := ho6.rd
  have hnl : 1 + nx + ny ≤ 100 := by omega
  generalize [a2] ++ X ++ Y = L at *
  generalize 1 + nx + ny = nl at *
  clear ho5 ho6 bb5 bb6 bs5 x3 y3 b3
  refine (union_c _ _ _ _ _ _ _ _ _ x6 y6 (by omega) (by omega)).mono ?_
  rintro e w7 ⟨A7, ln7, cp7, rfl, hm7, ho7, hb7⟩
  have b7 := below_call b6 hb7
  have x7 := x6.call (Nat.le_refl _) hb7
  have y7 := y6.call (Nat.le_refl _) hb7
  have al7 := al6.call (Nat.le_refl _) hb7
  have u7 := ho7.rd
  clear b6 hb7 ho7 x6 y6 al6
  go_wp2_with fail
  refine (meet_c _ _ _ _ _ _ _ _ _ x7 y7 (by omega) (by omega)).mono ?_
  rintro e w8 ⟨A8, ln8, cp8, rfl, hm8, ho8, hb8⟩
  have b8 := below_call b7 hb8
  have x8 := x7.call (Nat.le_refl _) hb8
  have y8 := y7.call (Nat.le_refl _) hb8
  have al8 := al7.call (Nat.le_refl _) hb8
  have u8 := u7.call (Nat.le_refl _) hb8
  have m8 := ho8.rd
  clear b7 hb8 x7 y7 al7 u7 ho8
  go_wp2_with fail
  refine (minus_c _ _ _ _ _ _ _ _ _ x8 y8 (by omega) (by omega)).mono ?_
  rintro e w9 ⟨A9, ln9, cp9, rfl, hm9, ho9, hb9⟩
  have b9 := below_call b8 hb9
  have x9 := x8.call (Nat.le_refl _) hb9
  have y9 := y8.call (Nat.le_refl _) hb9
  have al9 := al8.call (Nat.le_refl _) hb9
  have u9 := u8.call (Nat.le_refl _) hb9
  have m9 := m8.call (Nat.le_refl _) hb9
  have d9 := ho9.rd
  clear b8 hb9 x8 y8 al8 u8 m8 ho9
  go_wp2_with fail
  have LL := Lib.hid al9.len
  have UL := Lib.hid u9.len
  have ML := Lib.hid m9.len
  have bs9 := b9.size
  go_loopw [14] (fun i wr => ∃ (q : Nat), q ≤ nl ∧ i = .int .i64 q ∧ Below w9.heap.size w9 wr) (fun i _ => nl - (intOf i).toNat)
  case atStart => exact ⟨0, by omega, rfl, Below.refl _ _⟩
  case round =>
    obtain ⟨q, hq, rfl, hB⟩ := hrel
    have bsr := hB.size
    have x1 := x9.call (Nat.le_refl _) hB
    have y1 := y9.call (Nat.le_refl _) hB
    have al1 := al9.call (Nat.le_refl _) hB
    have u1 := u9.call (Nat.le_refl _) hB
    have m1 := m9.call (Nat.le_refl _) hB
    have d1 := d9.call (Nat.le_refl _) hB
    by_cases hlt : q < nl
    · obtain ⟨bl, ol, rfl, hbl, hcl⟩ := al1.pos (by omega)
      obtain ⟨v, hv⟩ := getD_some L q (by have := LL.out; omega)
      have c1 := hcl q v hv
      clear hcl hv
      have q0 : (0 : Int) ≤ (q : Int) := by omega
      have qn : (q : Int) < (nl : Int) := by omega
      have hu := have_u X Y v
      have hm := have_m X Y v
      have hd := have_d X Y v
      have ho := have_o X v
      have cx := fun w0 (h0 : Rd w0 w0.heap.size A2 nx X) => has_c A2 nx cp2 X v w0 h0 (by omega)
      have cy := fun w0 (h0 : Rd w0 w0.heap.size A3 ny Y) => has_c A3 ny cp3 Y v w0 h0 (by omega)
      have cu := fun w0 (h0 : Rd w0 w0.heap.size A7 ln7 (ofL (X ++ Y))) => has_c A7 ln7 cp7 _ v w0 h0 (by omega)
      have cm := fun w0 (h0 : Rd w0 w0.heap.size A8 ln8 (siftL X Y true)) => has_c A8 ln8 cp8 _ v w0 h0 (by omega)
      have cd := fun w0 (h0 : Rd w0 w0.heap.size A9 ln9 (siftL X Y false)) => has_c A9 ln9 cp9 _ v w0 h0 (by omega)
      rw [hu] at cu
      rw [hm] at cm
      rw [hd] at cd
      clear hu hm hd
      obtain ⟨P, hP⟩ : ∃ P, decide (v ∈ X) = P := ⟨_, rfl⟩
      obtain ⟨Q, hQ⟩ : ∃ Q, decide (v ∈ Y) = Q := ⟨_, rfl⟩
      rw [hP] at cx cu cm cd ho
      rw [hQ] at cy cu cm cd
      have c4 : (P = true ∧ Q = true) ∨ (P = true ∧ Q = false) ∨ (P = false ∧ Q = true) ∨ (P = false ∧ Q = false) := by cases P <;> cases Q <;> simp
      have HO := Lib.hid ho
      clear hP hQ ho
      have bsz : bl < wr.heap.size := hbl
      rcases c4 with ⟨hp, hq'⟩ | ⟨hp, hq'⟩ | ⟨hp, hq'⟩ | ⟨hp, hq'⟩
      all_goals
        subst hp; subst hq'
        have CX := Lib.hid cx; have CY := Lib.hid cy; have CU := Lib.hid cu; have CM := Lib.hid cm; have CD := Lib.hid cd
        clear cx cy cu cm cd
        go_wp2_with first
          | (go_at_call 24; (with_reducible refine (CX.out _ x1).mono ?_); rintro e w' ⟨rfl, rfl⟩)
          | (go_at_call 24; (with_reducible refine (CY.out _ y1).mono ?_); rintro e w' ⟨rfl, rfl⟩)
        have u2 : Rd wr.drew wr.drew.heap.size A7 ln7 (ofL (X ++ Y)) := u1
        have m2 : Rd wr.drew wr.drew.heap.size A8 ln8 (siftL X Y true) := m1
        have d2 : Rd wr.drew wr.drew.heap.size A9 ln9 (siftL X Y false) := d1
        have x2 : Rd wr.drew wr.drew.heap.size A2 nx X := x1
        first
        | (refine wp_region_noPanic ?_; go_region_held_law (fun w' => w'.cell? ⟨bl, ol + q, none⟩ = some (.int .i64 v)) (first | go_keep | exact ck5) (first
          | (go_at_call 24; (with_reducible refine (CU.out _ u2).mono ?_); rintro e w' ⟨rfl, rfl⟩)
          | (go_at_call 24; (with_reducible refine (CM.out _ m2).mono ?_); rintro e w' ⟨rfl, rfl⟩)
          | (go_at_call 24; (with_reducible refine (CD.out _ d2).mono ?_); rintro e w' ⟨rfl, rfl⟩)
          | (go_at_call 18; (with_reducible refine (of_c _ _ _ _ _ x2 (by omega)).mono ?_); rintro e w5 ⟨A5, m5, c5, rfl, hm5, ho5, hb5⟩; have r5 := ho5.rd; have bb5 : Below wr.heap.size wr w5 := ⟨hb5.os, hb5.tape, hb5.output, hb5.size, hb5.block⟩; have ck5 : w5.cell? ⟨bl, ol + q, none⟩ = some (.int .i64 v) := (bb5.cell bsz).trans c1; have c5' := has_c A5 m5 c5 _ v w5 r5 (by omega); rw [HO.out] at c5'; have C5 := Lib.hid c5'; clear hb5 ho5 c5')
          | (go_at_call 24; (with_reducible refine C5.out.mono ?_); rintro e w' ⟨rfl, rfl⟩)); all_goals (refine NoPanic.normal ?_))
        | fail
        all_goals
          go_wp2
          go_roundw
          case rel => exact ⟨q + 1, by omega, by go_num, hB.trans (bb5.mono bsr)⟩
          case measure => simp [intOf]; omega
    · have br := below_call b9 hB
      have hlen := have_len X Y
      rw [UL.out, ML.out] at hlen
      have HLEN := Lib.hid hlen
      clear hlen hq x9 y9 al9 u9 m9 d9 al1
      go_wp2_with fail
      refine (right_t _ _ _ _ _ u1 (by omega) (ofL_srt _)).mono ?_
      rintro e w11 ⟨rfl, hb11⟩
      have b11 := below_call br hb11
      have m11 := m1.call (Nat.le_refl _) hb11
      have d11 := d1.call (Nat.le_refl _) hb11
      have x11 := x1.call (Nat.le_refl _) hb11
      have y11 := y1.call (Nat.le_refl _) hb11
      clear hb11 br u1 m1 d1 x1 y1
      go_wp2_with fail
      refine (right_t _ _ _ _ _ m11 (by omega) (siftL_srt _ _ _)).mono ?_
      rintro e w12 ⟨rfl, hb12⟩
      have b12 := below_call b11 hb12
      have d12 := d11.call (Nat.le_refl _) hb12
      have x12 := x11.call (Nat.le_refl _) hb12
      have y12 := y11.call (Nat.le_refl _) hb12
      clear hb12 b11 m11 d11 x11 y11
      go_wp2_with fail
      refine (right_t _ _ _ _ _ d12 (by omega) (siftL_srt _ _ _)).mono ?_
      rintro e w13 ⟨rfl, hb13⟩
      have b13 := below_call b12 hb13
      have x13 := x12.call (Nat.le_refl _) hb13
      have y13 := y12.call (Nat.le_refl _) hb13
      clear hb13 b12 d12 x12 y12
      go_wp2_with fail
      refine (of_c _ _ _ _ _ x13 (by omega)).mono ?_
      rintro e w14 ⟨A14, m14, c14, rfl, hm14, ho14, hb14⟩
      have b14 := below_call b13 hb14
      have y14 := y13.call (Nat.le_refl _) hb14
      have l14 := ho14.len
      have L14 := Lib.hid l14
      clear hb14 b13 x13 y13 ho14 l14
      go_wp2_with fail
      refine (of_c _ _ _ _ _ y14 (by omega)).mono ?_
      rintro e w15 ⟨A15, m15, c15, rfl, hm15, ho15, hb15⟩
      have b15 := below_call b14 hb15
      have l15 := ho15.len
      have hl := HLEN.out
      rw [L14.out, l15] at hl
      have he : ((ln7 : Int) + (ln8 : Int) == (m14 : Int) + (m15 : Int)) = true := by rw [beq_iff_eq]; omega
      clear hb15 b14 y14 ho15 l15 hl
      go_wp2
      go_ret
      exact ⟨by first | rfl | simp [he], b15⟩


end Go.Proofs.Ytladdpfngoldcaa
