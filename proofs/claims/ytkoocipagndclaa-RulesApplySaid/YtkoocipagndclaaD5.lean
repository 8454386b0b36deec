/- Walks: join. -/
import Derived.Test.YtkoocipagndclaaD4
namespace Go.Proofs.Ytkoocipagndclaa
open Go.RowKit Go.Shelf

theorem keptSB_trans {B : Nat} {W W1 W2 : World} (h1 : Kept (SB B W) W W1) (h2 : Kept (SB B W1) W1 W2) : Kept (SB B W) W W2 := fun b hb => (h2 b (by
  have hbl := h1 b hb
  rcases hb with hb | ⟨cs, t, fr, hb, ht⟩
  · exact .inl hb
  · exact .inr ⟨cs, t, fr, hbl.trans hb, ht⟩)).trans (h1 b hb)
theorem Rd.keptSB {B : Nat} {W W1 : World} {A : Option Addr} {n : Nat} {xs : List Int} (h : Rd W (SB B W) A n xs) (hk : Kept (SB B W) W W1) : Rd W1 (SB B W1) A n xs := h.mono (fun b hb => by
  have hbl := hk b hb
  rcases hb with hb | ⟨cs, t, fr, hb, ht⟩
  · exact .inl hb
  · exact .inr ⟨cs, t, fr, hbl.trans hb, ht⟩) hk
theorem erase_len {run : List Itm} : ∀ {l : List Nat}, l.Pairwise (· < ·) → (∀ x ∈ l, x < run.length) → (l.foldr (fun i r => r.eraseIdx i) run).length = run.length - l.length ∧ ∀ x, (∀ y ∈ l, x < y) → x < run.length → x < run.length - l.length
  | [], _, _ => ⟨by simp, fun x _ h => by simpa using h⟩
  | a :: t, hp, hb => by
    obtain ⟨h1, h2⟩ := erase_len (List.pairwise_cons.1 hp).2 (fun x hx => hb x (List.mem_cons_of_mem _ hx))
    have ha := h2 a (fun y hy => (List.pairwise_cons.1 hp).1 y hy) (hb a (List.mem_cons_self ..))
    refine ⟨?_, fun x hx hl => ?_⟩
    · rw [List.foldr_cons, List.length_eraseIdx_of_lt (by rw [h1]; exact ha), h1]; simp; omega
    · have := hx a (List.mem_cons_self ..)
      simp; omega
def leastC (run : List Itm) (m : Int) (l : List Nat) : Int := l.foldl (fun m i => min m (cAt run i)) m
theorem leastC_next {run : List Itm} {m : Int} {l : List Nat} {j q : Nat} (h : l[j]? = some q) : leastC run m (l.take (j + 1)) = min (leastC run m (l.take j)) (cAt run q) := by
  unfold leastC; rw [List.take_add_one, h, List.foldl_append]; rfl
theorem join_eq {run : List Itm} {p : Nat} {ps : List Nat} {it : Itm} (h : run[p]? = some it) (g : Int) : joinL (p :: ps) g run = ps.foldr (fun i r => r.eraseIdx i) (run.set p { it with g := g, c := leastC run it.c (p :: ps) }) := by
  unfold joinL
  dsimp only
  rw [modify_at h]
  have : cAt run p = it.c := by simp [cAt, h]
  rw [this]; rfl
theorem cAt_some {run : List Itm} {i : Nat} {it : Itm} (h : run[i]? = some it) : cAt run i = it.c := by simp [cAt, h]
theorem drop_at {l : List Nat} {i q : Nat} (h : l[i]? = some q) : l.drop i = q :: l.drop (i + 1) := by
  obtain ⟨hl, rfl⟩ := List.getElem?_eq_some_iff.1 h
  exact List.drop_eq_getElem_cons hl

set_option maxRecDepth 100000 in
set_option maxHeartbeats 4000000 in
theorem join_c' (B Bw Bm : Nat) (f : FV) (F : Fnt) (RA : Option Addr) (rn rc : Nat) (run : List Itm) (PA : Option Addr) (pn pc p : Nat) (ps : List Nat) (glyph : Int) (W : World) (hs : WS B W Bw Bm f F RA rn rc run) (hP : Rd W (SB B W) PA pn (natI (p :: ps))) (hpd : Hd pn pc) (hpl : ∀ q ∈ p :: ps, q < run.length) (hpw : (p :: ps).Pairwise (· < ·)) (hrn : rn ≤ 1000) :
    Calls Try.prog 61 #[.pointer (some ⟨Bw, 0, none⟩), .slice PA pn pc, .int .i64 glyph] W (DPost B Bw Bm f F W (joinL (p :: ps) glyph run)) := by
  have hrl := hs.len
  have hp := hpl p (List.mem_cons_self ..)
  obtain ⟨it, hit⟩ := at_some run p hp
  obtain ⟨places, hpe⟩ : ∃ l, l = p :: ps := ⟨_, rfl⟩
  obtain ⟨R, hR⟩ : ∃ R, R = joinL (p :: ps) glyph run := ⟨_, rfl⟩
  rw [← hR]
  rw [join_eq hit] at hR
  rw [← hpe] at hR hP hpl hpw
  have hp0 : places[0]? = some p := by rw [hpe]; rfl
  have hdr : places.drop 1 = ps := by rw [hpe]; rfl
  rw [← hdr] at hR
  have hpn := hP.len
  rw [natI_len] at hpn
  have hpn0 : 0 < pn := by rw [← hpn, hpe]; simp
  have hpM : pn ≤ 9223372036854775807 := Nat.le_trans hpd.1 hpd.2
  obtain ⟨pb, po, rfl, hpS, hpc⟩ := hP.pos hpn0
  have HPC := Lib.hid fun (W1 : World) (hk : Kept (SB B W) W W1) (j q : Nat) (hq : places[j]? = some q) => (show W1.cell? ⟨pb, po + j, none⟩ = some (.int .i64 (q : Int)) by
    obtain ⟨cs, rfl, hcc⟩ := hpc j (q : Int) (natI_at hq)
    have := hcc 0 _ rfl
    rw [Nat.mul_one, Nat.add_zero] at this
    exact (hk.cell (p := ⟨pb, po + j, none⟩) hpS).trans this)
  obtain ⟨gi, rfl, hgB, hgl⟩ := hs.own.form (by omega)
  have y0 := HPC.out W (Kept.refl _ _) 0 p hp0
  rw [Nat.add_zero] at y0
  have c9 := hs.c9
  have z0 := hs.own.cell (itc_at hit (j := 0) (v := .int .i64 it.g) rfl)
  have f0 := hs.own.frozen (p * 6)
  rw [Nat.add_zero] at z0
  have HR := Lib.hid hR; have HIT := Lib.hid hit; have HRL := Lib.hid hrl; have HPL := Lib.hid hpl; have HPW := Lib.hid hpw; have HPN := Lib.hid hpn; have HP0 := Lib.hid hp0
  have pz : (0 : Int) ≤ (p : Int) := by omega
  have pr : (p : Int) < (rn : Int) := by omega
  have pn0 : (0 : Int) < (pn : Int) := by omega
  obtain ⟨h1, h2, h3⟩ := (hs.call (W' := W.drewN 1) ⟨rfl, rfl, rfl, Nat.le_refl _, fun _ _ => rfl⟩).store (p * 6 + 0) (.int .i64 glyph) (itc_setj (it' := { it with g := glyph }) hit rfl (by omega))
  have HST := Lib.hid fun (k : Nat) => (show WS B ((W.drewN k).setCell ⟨gi, p * 6, none⟩ (.int .i64 glyph)) Bw Bm f F (some ⟨gi, 0, none⟩) rn rc (run.set p { it with g := glyph }) ∧ Kept (SB B W) W ((W.drewN k).setCell ⟨gi, p * 6, none⟩ (.int .i64 glyph)) ∧ Below B W ((W.drewN k).setCell ⟨gi, p * 6, none⟩ (.int .i64 glyph)) from by
    obtain ⟨h1, h2, h3⟩ := (hs.call (W' := W.drewN k) ⟨rfl, rfl, rfl, Nat.le_refl _, fun _ _ => rfl⟩).store (p * 6 + 0) (.int .i64 glyph) (itc_setj (it' := { it with g := glyph }) hit rfl (by omega))
    exact ⟨h1, fun b hb => h2 b hb, ⟨h3.os, h3.tape, h3.output, h3.size, h3.block⟩⟩)
  clear hR hit hrl hpl hpw hpn hp0 hpe hdr hpc h1 h2 h3 hP
  go_enter Try.func61, Try.ntmps61
  go_wp2
  go_quiet (fail)
  go_upto_region 2 with fail
  obtain ⟨hs1, hk1, hb1⟩ := HST.out nq
  clear z0 f0 y0 c9 HST
  generalize (W.drewN nq).setCell ⟨gi, p * 6, none⟩ (.int .i64 glyph) = w1 at hs1 hk1 hb1 ⊢
  go_wp2
  go_loopw [24] (fun i wr => ∃ j : Nat, j ≤ pn ∧ i = .int .i64 j ∧ WS B wr Bw Bm f F (some ⟨gi, 0, none⟩) rn rc (run.set p { it with g := glyph, c := leastC run it.c (places.take j) }) ∧ Kept (SB B W) W wr ∧ Below B W wr) (fun i _ => pn - (intOf i).toNat)
  case atStart => exact ⟨0, by omega, rfl, hs1, hk1, hb1⟩
  case round =>
    obtain ⟨j, hj, rfl, hsr, hkr, hbr⟩ := hrel
    clear hs1 hk1 hb1
    by_cases hlt : j < pn
    · obtain ⟨q, hq⟩ := at_some places j (by have := HPN.out; omega)
      have hql := HPL.out q (List.mem_of_getElem? hq)
      have HNX := Lib.hid (leastC_next (run := run) (m := it.c) hq)
      have y1 := HPC.out wr hkr j q hq
      have hrun1 : (run.set p { it with g := glyph, c := leastC run it.c (places.take j) })[p]? = some { it with g := glyph, c := leastC run it.c (places.take j) } := List.getElem?_set_self (by have := HIT.out; exact (List.getElem?_eq_some_iff.1 this).1)
      obtain ⟨iq, hiq⟩ := at_some (run.set p { it with g := glyph, c := leastC run it.c (places.take j) }) q (by simpa using hql)
      have hmin : min (leastC run it.c (places.take j)) iq.c = min (leastC run it.c (places.take j)) (cAt run q) := by
        by_cases e : q = p
        · subst e
          rw [hrun1] at hiq
          injection hiq with hiq
          have hj0 : j = 0 := by
            rcases Nat.eq_zero_or_pos j with h | h
            · exact h
            · obtain ⟨a1, b1⟩ := List.getElem?_eq_some_iff.1 HP0.out
              obtain ⟨a2, b2⟩ := List.getElem?_eq_some_iff.1 hq
              have := List.pairwise_iff_getElem.1 HPW.out 0 j a1 a2 h
              omega
          subst hj0
          rw [← hiq, cAt_some HIT.out]; rfl
        · rw [List.getElem?_set_ne (fun h => e h.symm)] at hiq
          rw [cAt_some hiq]
      rw [← HNX.out] at hmin
      have HMIN := Lib.hid hmin
      have z1 := hsr.own.cell (itc_at hrun1 (j := 1) (v := .int .i64 (leastC run it.c (places.take j))) rfl)
      have z2 := hsr.own.cell (itc_at hiq (j := 1) (v := .int .i64 iq.c) rfl)
      have f1 := hsr.own.frozen (p * 6 + 1)
      have c9 := hsr.c9
      have HST := Lib.hid fun (v : Int) => hsr.store (p * 6 + 1) (.int .i64 v) (itc_setj (it' := { it with g := glyph, c := v }) hrun1 rfl (by omega))
      have jz : (0 : Int) ≤ (j : Int) := by omega
      have jn : (j : Int) < (pn : Int) := by omega
      have qz : (0 : Int) ≤ (q : Int) := by omega
      have qn : (q : Int) < (rn : Int) := by have := HRL.out; omega
      clear hq hql hrun1 hiq hmin
      generalize leastC run it.c (places.take j) = mj at *
      generalize iq.c = cq at *
      go_wp2
      go_region
      obtain ⟨h1, h2, h3⟩ := HST.out (min mj cq)
      rw [List.set_set, HMIN.out] at h1
      rw [HMIN.out] at h2 h3
      rw [HMIN.out]
      replace h1 := h1.drew_
      replace h2 : Kept (SB B wr) wr (wr.setCell ⟨gi, p * 6 + 1, none⟩ (.int .i64 (leastC run it.c (places.take (j + 1))))).drew := h2
      replace h3 : Below B wr (wr.setCell ⟨gi, p * 6 + 1, none⟩ (.int .i64 (leastC run it.c (places.take (j + 1))))).drew := ⟨h3.os, h3.tape, h3.output, h3.size, h3.block⟩
      generalize (wr.setCell ⟨gi, p * 6 + 1, none⟩ (.int .i64 (leastC run it.c (places.take (j + 1))))).drew = w3 at h1 h2 h3 ⊢
      clear z1 z2 f1 c9 y1 HST hsr
      go_wp2
      go_roundw
      case rel => exact ⟨j + 1, by omega, by go_num, h1, keptSB_trans hkr h2, hbr.trans h3⟩
      case measure => simp [intOf]; omega
    · have hjn : j = pn := by omega
      subst hjn
      have t3 : decide ((j : Int) < (j : Int)) = false := by simp
      rw [List.take_of_length_le (by rw [HPN.out]; exact Nat.le_refl _)] at hsr
      obtain ⟨run1, hrun1⟩ : ∃ r, r = run.set p { it with g := glyph, c := leastC run it.c places } := ⟨_, rfl⟩
      rw [← hrun1] at hsr
      have hR1 := HR.out
      rw [← hrun1] at hR1
      have HR1 := Lib.hid hR1
      have HL1 := Lib.hid (show run1.length = rn by rw [hrun1, List.length_set]; exact HRL.out)
      clear hR1 hrun1
      have hwj : wrap64 ((j : Int) - 1) = ((j - 1 : Nat) : Int) := by unfold wrap64; omega
      go_wp2
      go_loopw [9] (fun s wr => ∃ (i n : Nat) (cur : List Itm), s = .int .i64 (i : Int) ∧ i < j ∧ n ≤ 1000 ∧ cur = (places.drop (i + 1)).foldr (fun k r => r.eraseIdx k) run1 ∧ WS B wr Bw Bm f F (some ⟨gi, 0, none⟩) n rc cur ∧ Kept (SB B W) W wr ∧ Below B W wr) (fun i _ => (intOf i).toNat)
      case atStart => exact ⟨j - 1, rn, run1, by first | rfl | (congr 1; omega), by omega, by omega, by rw [List.drop_eq_nil_of_le (by have := HPN.out; omega)]; rfl, hsr, hkr, hbr⟩
      case round =>
        obtain ⟨i, n, cur, rfl, hi, hn, hcur, hsq, hkq, hbq⟩ := hrel
        clear hsr hkr hbr
        cases i with
        | zero =>
          have HRES := Lib.hid (show R = cur by rw [HR1.out, hcur])
          clear hcur
          go_wp2
          go_end0
          exact ⟨rfl, _, _, _, by rw [HRES.out]; exact hsq, hkq, hbq⟩
        | succ i =>
          obtain ⟨q, hq⟩ := at_some places (i + 1) (by have := HPN.out; omega)
          have hsub : (places.drop (i + 1)).Pairwise (· < ·) := HPW.out.sublist (List.drop_sublist _ _)
          rw [drop_at hq] at hsub
          obtain ⟨l1, l2⟩ := erase_len (run := run1) (List.pairwise_cons.1 hsub).2 (fun x hx => by rw [HL1.out, ← HRL.out]; exact HPL.out x (List.mem_of_mem_drop hx))
          have hqn : q < n := by
            have h5 := l2 q (fun y hy => (List.pairwise_cons.1 hsub).1 y hy) (by rw [HL1.out, ← HRL.out]; exact HPL.out q (List.mem_of_getElem? hq))
            rw [← l1, ← hcur, hsq.len] at h5; exact h5
          have hnx : cur.eraseIdx q = (places.drop (i + 1)).foldr (fun k r => r.eraseIdx k) run1 := by rw [drop_at hq, List.foldr_cons, ← hcur]
          have HNX := Lib.hid hnx
          have y1 := HPC.out wr hkq (i + 1) q hq
          have c9 := hsq.c9
          have HY1 := Lib.hid y1
          have HD := Lib.hid fun (W1 : World) (h1 : Ow 51 6 W1 B (some ⟨gi, 0, none⟩) n rc (itc cur)) => (show Calls Try.prog 67 #[.slice (some ⟨gi, 0, none⟩) n rc, .int .i64 (q : Int), .int .i64 ((q : Int) + 1)] W1 _ from delete_c B gi n rc cur q W1 h1 hqn hn)
          have hwq : IntKind.i64.wrap ((q : Int) + 1) = (q : Int) + 1 := by rw [IntKind.wrap_i64]; omega
          have iz : (0 : Int) ≤ ((i + 1 : Nat) : Int) := by omega
          have iz2 : (0 : Int) < (i : Int) + 1 := by omega
          have iz3 : (0 : Int) ≤ (i : Int) + 1 := by omega
          have htn : ((i : Int) + 1).toNat = i + 1 := by omega
          have ij : ((i + 1 : Nat) : Int) < (j : Int) := by omega
          have ij2 : (i : Int) + 1 < (j : Int) := by omega
          have HSQ := Lib.hid hsq
          have HGR := Lib.hid fun (w5 : World) (gr5 : wr.drew.grownBy w5 (some gi)) => (show w5.cell? ⟨Bw, 9, none⟩ = some (.slice (some ⟨gi, 0, none⟩) n rc) ∧ w5.frozen? ⟨Bw, 9, none⟩ = false ∧ w5.cell? ⟨pb, po + (i + 1), none⟩ = some (.int .i64 (q : Int)) ∧ (w5.setCell ⟨Bw, 9, none⟩ (.slice (some ⟨gi, 0, none⟩) (q + (n - (q + 1))) rc)).cell? ⟨pb, po + (i + 1), none⟩ = some (.int .i64 (q : Int)) from by
            obtain ⟨_, _, _, cur', hh⟩ := HSQ.out.own.blk gi rfl
            have hw2 := HSQ.out.drew_.wk.grown gr5 (fun e => by
              injection e with e
              have hw := HSQ.out.wk
              rw [e] at hw
              unfold Bk at hw; rw [hw] at hh; injection hh with hh; injection hh with _ h2; revert h2; decide)
            have hpb := hkq pb hpS
            have hSr : SB B wr pb := by
              rcases hpS with hb | ⟨cs, t, fr, hb, ht⟩
              · exact .inl hb
              · exact .inr ⟨cs, t, fr, hpb.trans hb, ht⟩
            have hne : pb ≠ Bw := fun e => by
              subst e
              rcases hSr with hb | ⟨cs, t, fr, hb, _, ht⟩
              · have := HSQ.out.lw; omega
              · have hw := HSQ.out.wk; unfold Bk at hw; rw [hb] at hw; injection hw with hw; injection hw with _ h2; exact ht h2
            have q5 : w5.heap[pb]? = wr.heap[pb]? := gr5.block pb (hSr.lt HSQ.out.hB) (fun e => by
              injection e with e; subst e
              rcases hSr with hb | ⟨cs, t, fr, hb, ht, _⟩
              · omega
              · rw [hb] at hh; injection hh with hh; injection hh with _ h2; exact ht h2)
            have hz : w5.cell? ⟨pb, po + (i + 1), none⟩ = some (.int .i64 (q : Int)) := (World.cell?_of_block (a := ⟨pb, po + (i + 1), none⟩) q5).trans HY1.out
            exact ⟨by have := hw2.cell 9; simpa using this, hw2.frozen 9, hz, (World.cell?_of_block (a := ⟨pb, po + (i + 1), none⟩) (Below.heap_setCell _ _ _ _ hne)).trans hz⟩)
          clear hq hsub l1 l2 hnx hcur hsq
          go_wp2
          refine wp_region_held_drew (S := fun w' => w'.cell? ⟨pb, po + (i + 1), none⟩ = some (.int .i64 (q : Int))) (by kernel_rfl) ?_ (fun hHeld => ?_)
          · exact y1
          refine wpAnyH_take (i := 0) (v := ?_) (by simp only [List.getElem?_toArray, List.getElem?_cons_zero]; rfl) (by kernel_rfl) (by kernel_rfl) (by kernel_rfl) (by exact fun _ _ _ h => h) (Or.inl ⟨by rfl, ?_⟩) (by assumption) ?_
          rotate_left 1
          · intro w hSw; (try dsimp only at hSw); go_simp; try with_reducible rfl
          try simp only [Act.put, List.setIfInBounds_toArray, List.set_cons_zero, List.set_cons_succ]
          refine wpAnyH_take (i := 1) (v := ?_) (by simp only [List.getElem?_toArray, List.getElem?_cons_succ, List.getElem?_cons_zero]; rfl) (by kernel_rfl) (by kernel_rfl) (by kernel_rfl) (by exact fun _ _ _ h => h) (Or.inl ⟨by rfl, ?_⟩) (by assumption) ?_
          rotate_left 1
          · intro w hSw; (try dsimp only at hSw); go_simp; try with_reducible rfl
          try simp only [Act.put, List.setIfInBounds_toArray, List.set_cons_zero, List.set_cons_succ]
          refine wpAnyH_take (i := 2) (v := ?_) (by simp only [List.getElem?_toArray, List.getElem?_cons_succ, List.getElem?_cons_zero]; rfl) (by kernel_rfl) (by kernel_rfl) (by kernel_rfl) (by exact fun _ _ _ h => h) (Or.inl ⟨by rfl, ?_⟩) (by assumption) ?_
          rotate_left 1
          · intro w hSw; (try dsimp only at hSw); go_simp; try with_reducible rfl
          try simp only [Act.put, List.setIfInBounds_toArray, List.set_cons_zero, List.set_cons_succ]
          refine wpAnyH_take (i := 3) (v := ?_) (by simp only [List.getElem?_toArray, List.getElem?_cons_succ, List.getElem?_cons_zero]; rfl) (by kernel_rfl) (by kernel_rfl) (by kernel_rfl) (by exact fun _ _ _ h => h) (Or.inl ⟨by rfl, ?_⟩) (by assumption) ?_
          rotate_left 1
          · intro w hSw; (try dsimp only at hSw); go_simp; try with_reducible rfl
          try simp only [Act.put, List.setIfInBounds_toArray, List.set_cons_zero, List.set_cons_succ]
          refine wpAnyH_take (i := 5) (v := ?_) (by simp only [List.getElem?_toArray, List.getElem?_cons_succ, List.getElem?_cons_zero]; rfl) (by kernel_rfl) (by kernel_rfl) (by kernel_rfl) (by exact fun _ _ _ h => h) (Or.inl ⟨by rfl, ?_⟩) (by assumption) ?_
          rotate_left 1
          · intro w hSw; (try dsimp only at hSw); go_simp; try with_reducible rfl
          try simp only [Act.put, List.setIfInBounds_toArray, List.set_cons_zero, List.set_cons_succ]
          refine wpAnyH_take (i := 6) (v := ?_) (by simp only [List.getElem?_toArray, List.getElem?_cons_succ, List.getElem?_cons_zero]; rfl) (by kernel_rfl) (by kernel_rfl) (by kernel_rfl) (by exact fun _ _ _ h => h) (Or.inl ⟨by rfl, ?_⟩) (by assumption) ?_
          rotate_left 1
          · intro w hSw; (try dsimp only at hSw); go_simp; try with_reducible rfl
          try simp only [Act.put, List.setIfInBounds_toArray, List.set_cons_zero, List.set_cons_succ]
          refine wpAnyH_take (i := 7) (v := ?_) (by simp only [List.getElem?_toArray, List.getElem?_cons_succ, List.getElem?_cons_zero]; rfl) (by kernel_rfl) (by kernel_rfl) (by kernel_rfl) (by exact fun _ _ _ h => h) (Or.inl ⟨by rfl, ?_⟩) (by assumption) ?_
          rotate_left 1
          · intro w hSw; (try dsimp only at hSw); go_simp; try with_reducible rfl
          try simp only [Act.put, List.setIfInBounds_toArray, List.set_cons_zero, List.set_cons_succ]
          refine wpAnyH_take (i := 8) (v := ?_) (by simp only [List.getElem?_toArray, List.getElem?_cons_succ, List.getElem?_cons_zero]; rfl) (by kernel_rfl) (by kernel_rfl) (by kernel_rfl) (by exact fun _ _ _ h => h) (Or.inl ⟨by rfl, ?_⟩) (by assumption) ?_
          rotate_left 1
          · intro w hSw; (try dsimp only at hSw); go_simp; try with_reducible rfl
          try simp only [Act.put, List.setIfInBounds_toArray, List.set_cons_zero, List.set_cons_succ]
          refine wpAnyH_take (i := 9) (v := ?_) (by simp only [List.getElem?_toArray, List.getElem?_cons_succ, List.getElem?_cons_zero]; rfl) (by kernel_rfl) (by kernel_rfl) (by kernel_rfl) (by exact fun _ _ _ h => h) (Or.inl ⟨by rfl, ?_⟩) (by assumption) ?_
          rotate_left 1
          · intro w hSw; (try dsimp only at hSw); go_simp; try with_reducible rfl
          try simp only [Act.put, List.setIfInBounds_toArray, List.set_cons_zero, List.set_cons_succ]
          refine wpAnyH_take (i := 10) (v := ?_) (by simp only [List.getElem?_toArray, List.getElem?_cons_succ, List.getElem?_cons_zero]; rfl) (by kernel_rfl) (by kernel_rfl) (by kernel_rfl) (by exact fun _ _ _ h => h) (Or.inl ⟨by rfl, ?_⟩) (by assumption) ?_
          rotate_left 1
          · intro w hSw; (try dsimp only at hSw); go_simp; try with_reducible rfl
          try simp only [Act.put, List.setIfInBounds_toArray, List.set_cons_zero, List.set_cons_succ]
          refine wpAnyH_take (i := 11) (v := ?_) (by simp only [List.getElem?_toArray, List.getElem?_cons_succ, List.getElem?_cons_zero]; rfl) (by kernel_rfl) (by kernel_rfl) (by kernel_rfl) (by exact fun _ _ _ h => h) (Or.inl ⟨by rfl, ?_⟩) (by assumption) ?_
          rotate_left 1
          · intro w hSw; (try dsimp only at hSw); go_simp; try with_reducible rfl
          try simp only [Act.put, List.setIfInBounds_toArray, List.set_cons_zero, List.set_cons_succ]
          refine wpAnyH_take (i := 12) (v := ?_) (by simp only [List.getElem?_toArray, List.getElem?_cons_succ, List.getElem?_cons_zero]; rfl) (by kernel_rfl) (by kernel_rfl) (by kernel_rfl) (by exact fun _ _ _ h => h) (Or.inl ⟨by rfl, ?_⟩) (by assumption) ?_
          rotate_left 1
          · intro w hSw; (try dsimp only at hSw); go_simp; try with_reducible rfl
          try simp only [Act.put, List.setIfInBounds_toArray, List.set_cons_zero, List.set_cons_succ]
          refine wpAnyH_take (i := 13) (v := ?_) (by simp only [List.getElem?_toArray, List.getElem?_cons_succ, List.getElem?_cons_zero]; rfl) (by kernel_rfl) (by kernel_rfl) (by kernel_rfl) (by exact fun _ _ _ h => h) (Or.inl ⟨by rfl, ?_⟩) (by assumption) ?_
          rotate_left 1
          · intro w hSw; (try dsimp only at hSw); go_simp; try with_reducible rfl
          try simp only [Act.put, List.setIfInBounds_toArray, List.set_cons_zero, List.set_cons_succ]
          refine wpAnyH_ready (rs := [4]) (by kernel_rfl) (by simp) ?_
          refine AllReadyH.cons rfl (fun K hK => ?_) AllReadyH.nil
          go_simp
          refine hK.out _ _ ?_ (fun hHeld => ?_)
          · exact y1
          clear hK K
          try simp only [Act.put, List.setIfInBounds_toArray, List.set_cons_zero, List.set_cons_succ]
          refine wpAnyH_ready (rs := [14]) (by kernel_rfl) (by simp) ?_
          refine AllReadyH.cons rfl (fun K hK => ?_) AllReadyH.nil
          go_simp
          go_at_call 67
          (with_reducible refine (HD.out _ ?_).mono ?_)
          · exact HSQ.out.own
          rintro e w5 ⟨rfl, o5, gr5⟩
          obtain ⟨z9, zf, z, z2⟩ := HGR.out w5 gr5
          go_wp2_with fail
          refine hK.out _ _ ?_ (fun hHeld => ?_)
          · exact z
          clear hK K
          try simp only [Act.put, List.setIfInBounds_toArray, List.set_cons_zero, List.set_cons_succ]
          refine wpAnyH_take (i := 15) (v := ?_) (by simp only [List.getElem?_toArray, List.getElem?_cons_succ, List.getElem?_cons_zero]; rfl) (by kernel_rfl) (by kernel_rfl) (by kernel_rfl) (by exact fun _ _ _ h => h) (Or.inl ⟨by rfl, ?_⟩) (by assumption) ?_
          rotate_left 1
          · intro w hSw; (try dsimp only at hSw); go_simp; try with_reducible rfl
          try simp only [Act.put, List.setIfInBounds_toArray, List.set_cons_zero, List.set_cons_succ]
          refine wpAnyH_take (i := 16) (v := ?_) (by simp only [List.getElem?_toArray, List.getElem?_cons_succ, List.getElem?_cons_zero]; rfl) (by kernel_rfl) (by kernel_rfl) (by kernel_rfl) (by exact fun _ _ _ h => h) (Or.inl ⟨by rfl, ?_⟩) (by assumption) ?_
          rotate_left 1
          · intro w hSw; (try dsimp only at hSw); go_simp; try with_reducible rfl
          try simp only [Act.put, List.setIfInBounds_toArray, List.set_cons_zero, List.set_cons_succ]
          refine wpAnyH_ready (rs := [17]) (by kernel_rfl) (by simp) ?_
          refine AllReadyH.cons rfl (fun K hK => ?_) AllReadyH.nil
          go_simp
          refine hK.out _ _ ?_ (fun hHeld => ?_)
          · exact z2
          clear hK K
          try simp only [Act.put, List.setIfInBounds_toArray, List.set_cons_zero, List.set_cons_succ]
          refine wpAnyH_done (by kernel_rfl) ?_ _
          obtain ⟨h1, h2, h3⟩ := HSQ.out.drew_.newRun gr5 o5
          rw [HNX.out] at h1
          have hK := keptSB_trans hkq (show Kept (SB B wr) wr _ from h2)
          have hBl := hbq.trans (show Below B wr _ from ⟨h3.os, h3.tape, h3.output, h3.size, h3.block⟩)
          generalize w5.setCell ⟨Bw, 9, none⟩ (.slice (some ⟨gi, 0, none⟩) (q + (n - (q + 1))) rc) = w6 at h1 hK hBl ⊢
          clear h2 h3 o5 gr5 z9 zf z z2 hHeld y1 c9 HD HGR HSQ hkq hbq HNX HY1 hwq
          go_wp2
          go_roundw
          case rel => exact ⟨i, q + (n - (q + 1)), _, by go_num, by omega, by omega, rfl, h1, hK, hBl⟩
          case measure => simp [intOf] <;> omega

end Go.Proofs.Ytkoocipagndclaa
