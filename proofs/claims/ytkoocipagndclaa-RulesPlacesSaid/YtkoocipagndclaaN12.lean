/- Walk: RulesPlaces. -/
import Derived.Test.YtkoocipagndclaaN4
import Derived.Test.YtkoocipagndclaaL4
import Derived.Test.YtkoocipagndclaaOpW
import Derived.Handy
namespace Go.Proofs.Ytkoocipagndclaa
open Go.RowKit Go.Shelf

theorem matchQ_in {F : Fnt} {n : Int} {run : List Itm} {k : Int} {forms : List Int} {j : Nat} {ps : List Nat} (h : matchQ F n run k forms = some (j, ps)) : ∃ (q : Nat) (lk : Lk) (r : Rul), n = (q : Int) ∧ F.lks[q]? = some lk ∧ lk.rules[j]? = some r ∧ matchL F lk run k forms = some (j, ps) := by
  unfold matchQ at h
  split at h
  · cases h
  · rename_i lk hl
    obtain ⟨r, hr, _⟩ := matchL_some h
    unfold lkAt at hl
    split at hl
    · cases hl
    · exact ⟨n.toNat, lk, r, by omega, hl, hr, h⟩
theorem rule_in {w : World} {A : Option Addr} {n : Nat} {rs : List Rul} {i : Nat} {r : Rul} (h : RdR w (lo w.heap.size) A n rs) (hr : rs[i]? = some r) : ∃ b o A1 n1 c1 A2 n2 c2 A3 n3 c3 A4 n4 c4 A5 n5 c5, A = some ⟨b, o, none⟩ ∧ w.cell? ⟨b, o + i * 6, none⟩ = some (.slice A1 n1 c1) ∧ w.cell? ⟨b, o + i * 6 + 1, none⟩ = some (.slice A2 n2 c2) ∧ w.cell? ⟨b, o + i * 6 + 2, none⟩ = some (.slice A3 n3 c3) ∧ w.cell? ⟨b, o + i * 6 + 3, none⟩ = some (.slice A4 n4 c4) ∧ w.cell? ⟨b, o + i * 6 + 4, none⟩ = some (.slice A5 n5 c5) ∧ w.cell? ⟨b, o + i * 6 + 5, none⟩ = some (.int .i64 r.x) ∧
    RdV w (lo w.heap.size) A1 n1 r.back ∧ RdV w (lo w.heap.size) A2 n2 r.inn ∧ RdV w (lo w.heap.size) A3 n3 r.ahead ∧ Rd w (lo w.heap.size) A4 n4 r.out ∧ RdC w (lo w.heap.size) A5 n5 r.calls ∧ Hd n1 c1 ∧ Hd n2 c2 ∧ Hd n3 c3 ∧ Hd n4 c4 ∧ Hd n5 c5 := by
  have hl := h.len
  have hil := (List.getElem?_eq_some_iff.1 hr).1
  obtain ⟨b, o, e, _, hc⟩ := h.pos (by omega)
  obtain ⟨cs, ⟨A1, n1, c1, A2, n2, c2, A3, n3, c3, A4, n4, c4, A5, n5, c5, rfl, h1, h2, h3, h4, h5, d1, d2, d3, d4, d5⟩, hcc⟩ := hc i r hr
  exact ⟨b, o, A1, n1, c1, A2, n2, c2, A3, n3, c3, A4, n4, c4, A5, n5, c5, e, hcc 0 _ rfl, hcc 1 _ rfl, hcc 2 _ rfl, hcc 3 _ rfl, hcc 4 _ rfl, hcc 5 _ rfl, h1, h2, h3, h4, h5, d1, d2, d3, d4, d5⟩
theorem lin_v (A : Option Addr) (n c : Nat) (xs : List Int) (g : Int) (v : Bool) (w : World) (h : Rd w (lo w.heap.size) A n xs) (hn : n ≤ 9223372036854775807) (hc : xs.contains g = v) :
    Calls Try.prog 21 #[.slice A n c, .int .i64 g] w fun e w' => e = .returned (.bool v) ∧ Below w.heap.size w w' :=
  (lin_c A n c xs g w h hn).mono fun e w' ⟨h1, h2⟩ => by rw [h1, hc, ← h2]; exact ⟨rfl, Below.refl _ _⟩
theorem lmark_v (f : FV) (F : Fnt) (g : Int) (v : Bool) (w : World) (hf : IsF w (lo w.heap.size) f F) (hv : isMark F g = v) :
    Calls Try.prog 22 #[.agg f.cells, .int .i64 g] w fun e w' => e = .returned (.bool v) ∧ Below w.heap.size w w' := by
  have h := lmark_c f F g w hf
  rw [hv] at h
  exact h
theorem natI_mem {ps : List Nat} {c : Nat} {v : Bool} (h : decide (c ∈ ps) = v) : (natI ps).contains (c : Int) = v := by
  rw [← h, Bool.eq_iff_iff]
  simp [natI]
  exact ⟨fun ⟨a, h1, h2⟩ => by rw [show c = a by omega]; exact h1, fun h1 => ⟨c, h1, rfl⟩⟩
/-- What a match tells of its places. -/
structure PlI (F : Fnt) (lk : Lk) (run : List Itm) (kk : Nat) (forms : List Int) (r : Rul) (ps : List Nat) : Prop where
  ne : 0 < ps.length
  hd : ps[0]? = some kk
  len : ps.length = r.inn.length
  lt : ∀ p ∈ ps, kk ≤ p ∧ p < run.length
  up : ∀ (i p p' : Nat), ps[i]? = some p' → ps[i + 1]? = some p → p' < p
  ins : ∀ (i p : Nat) (s : List Int) (it : Itm), ps[i]? = some p → r.inn[i]? = some s → run[p]? = some it → s.contains it.g = true
  mid : ∀ (i p c : Nat) (it : Itm), ps[i]? = some p → kk ≤ c → c < p → run[c]? = some it → c ∉ ps → lk.ign = true ∧ isMark F it.g = true
  fo : ∀ it, run[kk]? = some it → forms = [] ∨ forms.contains it.f = true
theorem pl_of {F : Fnt} {lk : Lk} {run : List Itm} {k : Int} {forms : List Int} {j : Nat} {ps : List Nat} (h : matchL F lk run k forms = some (j, ps)) : ∃ (kk : Nat) (r : Rul), k = (kk : Int) ∧ kk < run.length ∧ lk.rules[j]? = some r ∧ PlI F lk run kk forms r ps := by
  obtain ⟨r, hr, h0, h1, hne, hhd, hpl, hps, hpw, hfit, he, hb⟩ := matchL_some h
  obtain ⟨kk, rfl⟩ : ∃ kk : Nat, k = (kk : Int) := ⟨k.toNat, by omega⟩
  rw [Int.toNat_natCast] at hhd hps hfit he
  refine ⟨kk, r, rfl, by omega, hr, ?_, ?_, hpl, fun p hp => ⟨(hps p hp).1, (hps p hp).2.1⟩, fun i p p' h1 h2 => ?_, fun i p s it h1 h2 h3 => ?_, fun i p c it h1 h2 h3 h4 h5 => ?_, fun it hit => ?_⟩
  · exact List.length_pos_iff.2 hne
  · rw [← List.head?_eq_getElem?]; exact hhd
  · obtain ⟨a1, rfl⟩ := List.getElem?_eq_some_iff.1 h1
    obtain ⟨a2, rfl⟩ := List.getElem?_eq_some_iff.1 h2
    exact List.pairwise_iff_getElem.1 hpw i (i + 1) a1 a2 (by omega)
  · have hin : inSets run r.inn (foreL F lk.ign run kk) = true := by
      unfold fits at hfit
      simp only [Bool.and_eq_true] at hfit
      exact hfit.2.1
    rw [he, List.getElem?_take] at h1
    split at h1
    · have := inSets_at hin h2 h1
      rw [gAt_some h3] at this
      exact this
    · cases h1
  · rcases places_between h h1 h2 h3 with h6 | h6
    · exact absurd h6 h5
    · rw [gAt_some h4] at h6
      simpa using h6
  · rw [begL_at hit] at hb
    simp only [Bool.and_eq_true, Bool.or_eq_true] at hb
    rcases hb.2 with h6 | h6
    · left; simpa using h6
    · exact .inr h6
set_option maxRecDepth 100000 in
set_option maxHeartbeats 4000000 in
theorem rulesPlaces_walk (f : FV) (F : Fnt) (n : Int) (RA : Option Addr) (rn rc : Nat) (run : List Itm) (k : Int) (FA : Option Addr) (fn fc : Nat) (forms : List Int) (w : World) (hf : IsF w (lo w.heap.size) f F) (hI : RdI w (lo w.heap.size) RA rn run) (hd : Hd rn rc) (hF : Rd w (lo w.heap.size) FA fn forms) (hfd : Hd fn fc) (hq : QFnt F) (hrn0 : rn ≤ 2999999999999) :
    Calls Try.prog 5 #[.agg (askC f n RA rn rc k FA fn fc)] w (TP w) := by
  have hrnM : rn ≤ 9223372036854775807 := Nat.le_trans hd.1 hd.2
  have hfnM : fn ≤ 9223372036854775807 := Nat.le_trans hfd.1 hfd.2
  have hs_0 := AS.new (n := n) (k := k) (rc := rc) (fc := fc) hf hI hF
  unfold askC at hs_0 ⊢
  go_enter Try.func5, Try.ntmps5
  go_upto_region 1 with fail
  generalize w.alloc (.cells #[.int .i64 f.u0, .slice f.ga f.gn f.gc, .slice f.ca f.cn f.cc, .slice f.la f.ln f.lc, .slice f.a4 f.n4 f.c4, .slice f.a5 f.n5 f.c5, .slice f.a6 f.n6 f.c6, .slice f.a7 f.n7 f.c7, .slice f.a8 f.n8 f.c8, .int .i64 n, .slice RA rn rc, .int .i64 k, .slice FA fn fc] 34) = w0 at hs_0 ⊢
  generalize hbf : w.heap.size = bf at hs_0 ⊢
  clear hf hI hF
  have HC := Lib.hid (rMatch_c f F n RA rn rc run k FA fn fc forms w0 hs_0.hf hs_0.hI hs_0.hF hrn0 hfnM hq.rch)
  unfold FV.cells at HC
  obtain ⟨ans, hans⟩ : ∃ x, x = matchQ F n run k forms := ⟨_, rfl⟩
  have HA := Lib.hid hans
  rw [← hans] at HC
  clear hans
  obtain ⟨y0, y1, y2, y3, y4, y5, y6, y7, y8, y9, y10, y11, y12⟩ := hs_0.cells
  go_wp2_with fail
  refine HC.out.mono ?_
  intro e w1 hP
  clear HC y0 y1 y2 y3 y4 y5 y6 y7 y8 y9 y10 y11 y12
  rcases ans with _ | ⟨j, ps⟩
  · obtain ⟨rfl, b1⟩ := hP
    have hs_1 := hs_0.call b1
    clear hs_0 b1
    have HC := Lib.hid (big11_c f F RA rn rc run w1 hs_1.hf hs_1.hI hrnM)
    unfold FV.cells at HC
    obtain ⟨y0, y1, y2, y3, y4, y5, y6, y7, y8, y9, y10, y11, y12⟩ := hs_1.cells
    go_wp2_with fail
    refine HC.out.mono ?_
    rintro e w2 ⟨rfl, b2⟩
    clear HC y0 y1 y2 y3 y4 y5 y6 y7 y8 y9 y10 y11 y12
    have hs_2 := hs_1.call b2
    clear hs_1 b2
    cases hbig : big11 F run with
    | true =>
      go_wp2
      go_ret
      exact ⟨rfl, hs_2.bw⟩
    | false =>
      obtain ⟨y0, y1, y2, y3, y4, y5, y6, y7, y8, y9, y10, y11, y12⟩ := hs_2.cells
      go_wp2_with fail
      refine (ruled_c _).mono ?_
      rintro e w9 ⟨rfl, b9⟩
      go_wp2
      go_ret
      exact ⟨rfl, below_call hs_2.bw b9⟩
  · obtain ⟨PA, pc, rfl, p1, p2, b1⟩ := hP
    have hs_1 := hs_0.call b1
    replace p1 := sol_lo p1
    have jz : decide ((j : Int) < 0) = false := by simp
    clear hs_0 b1
    have HC := Lib.hid (big11_c f F RA rn rc run w1 hs_1.hf hs_1.hI hrnM)
    unfold FV.cells at HC
    obtain ⟨y0, y1, y2, y3, y4, y5, y6, y7, y8, y9, y10, y11, y12⟩ := hs_1.cells
    go_wp2_with fail
    refine HC.out.mono ?_
    rintro e w2 ⟨rfl, b2⟩
    clear HC y0 y1 y2 y3 y4 y5 y6 y7 y8 y9 y10 y11 y12
    have hs_2 := hs_1.call b2
    replace p1 := p1.call b2
    clear hs_1 b2
    cases hbig : big11 F run with
    | true =>
      go_wp2
      go_ret
      exact ⟨rfl, hs_2.bw⟩
    | false =>
      have hsm := small11 hbig
      have hrn : rn ≤ 300 := by have := hs_2.hI.len; have := hsm.run; omega
      have HRL := Lib.hid hs_2.hI.len
      obtain ⟨q, lk, _, rfl, hlk, _, hml⟩ := matchQ_in HA.out.symm
      obtain ⟨kk, r, rfl, hkr, hr, hpl⟩ := pl_of hml
      have HPL := Lib.hid hpl
      have hqN : q < f.ln := by have := hs_2.hf.2.1.len; have := (List.getElem?_eq_some_iff.1 hlk).1; omega
      have tn : decide ((q : Int) < 0) = false := by simp
      have tb : decide ((f.ln : Int) ≤ (q : Int)) = false := by simp; omega
      have tb' : decide (f.ln ≤ q) = false := by simp; omega
      have qz : (0 : Int) ≤ (q : Int) := by omega
      have ql : (q : Int) < (f.ln : Int) := by omega
      obtain ⟨lb, lo', hla, _, hc⟩ := hs_2.hf.2.1.pos (by omega)
      obtain ⟨cs, ⟨LA, ln, lc, rfl, hRR, hRd⟩, hcc⟩ := hc q lk hlk
      have l0 := hcc 0 _ rfl
      have l1 := hcc 1 _ rfl
      have l2 := hcc 2 _ rfl
      rw [Nat.add_zero] at l0
      have hjl : j < ln := by have := (List.getElem?_eq_some_iff.1 hr).1; have := hRR.len; omega
      have tj : decide ((ln : Int) ≤ (j : Int)) = false := by simp; omega
      have tj' : decide (ln ≤ j) = false := by simp; omega
      obtain ⟨rb, ro, A1, n1, c1, A2, n2, c2, A3, n3, c3, A4, n4, c4, A5, n5, c5, hLA, r0, r1, r2, r3, r4, r5, h1, h2, h3, h4, h5, d1, d2, d3, d4, d5⟩ := rule_in hRR hr
      subst hLA
      have HPM := Lib.hid (show ps.length ≤ 9223372036854775807 from Nat.le_trans p2.1 p2.2)
      have e2 : ps.length = n2 := hpl.len.trans h2.len
      have HNE := Lib.hid hpl.ne
      generalize hpln : ps.length = pl at *
      have HPN := Lib.hid hpln
      subst e2
      clear hpln
      have HLA := Lib.hid hla
      obtain ⟨b, o, hRA, _, _⟩ := hs_2.hI.pos (by have := HRL.out; omega)
      subst hRA
      obtain ⟨i0, hi0⟩ := at_some run kk hkr
      have HI0 := Lib.hid hi0
      obtain ⟨y0, y1, y2, y3, y4, y5, y6, y7, y8, y9, y10, y11, y12⟩ := hs_2.cells
      rw [HLA.out] at y3
      clear hc hcc hla hlk hml hbig HA hr hpl h1 h3 h4 h5 d1 d2 d3 d4 d5 r0 r2 r3 r4 r5 hi0
      go_upto_region 9 with fail
      have kl2 := Bk.new w2 44 #[.int .i64 lk.kind, .bool lk.ign, .slice (some ⟨rb, ro, none⟩) ln lc]
      have b3 : Below w2.heap.size w2 (w2.alloc (.cells #[.int .i64 lk.kind, .bool lk.ign, .slice (some ⟨rb, ro, none⟩) ln lc] 44)) := (Below.refl _ _).alloc (Nat.le_refl _) _
      have hs3 := hs_2.call b3
      replace p1 := p1.call b3
      replace h2 := h2.call b3
      replace r1 := cell_call r1 b3
      clear y0 y1 y2 y3 y4 y5 y6 y7 y8 y9 y10 y11 y12 l0 l1 l2 hs_2 b3
      generalize w2.alloc (.cells #[.int .i64 lk.kind, .bool lk.ign, .slice (some ⟨rb, ro, none⟩) ln lc] 44) = w3 at *
      generalize w2.heap.size = gl at *
      have hpM := HPM.out
      have hne := HNE.out
      have jz0 : (0 : Int) ≤ (j : Int) := by omega
      have jl0 : (j : Int) < (ln : Int) := by omega
      have tl0 : ((pl : Int) == 0) = false := by simp; omega
      have tl1 : (0 : Int) < (pl : Int) := by omega
      obtain ⟨pb, po, hPA, _, hpc⟩ := p1.pos hne
      subst hPA
      have HPC := Lib.hid (show ∀ (i p : Nat), ps[i]? = some p → w3.cell? ⟨pb, po + i, none⟩ = some (.int .i64 (p : Int)) from fun i p hp => by
        obtain ⟨cs, rfl, hcc⟩ := hpc i (p : Int) (natI_at hp)
        have := hcc 0 _ rfl
        rw [Nat.mul_one, Nat.add_zero] at this
        exact this)
      have e0 : w3.cell? ⟨pb, po, none⟩ = some (.int .i64 (kk : Int)) := HPC.out 0 kk HPL.out.hd
      have z2 : w3.cell? ⟨gl, 2, none⟩ = some (.slice (some ⟨rb, ro, none⟩) ln lc) := kl2.cell 2
      obtain ⟨y0, y1, y2, y3, y4, y5, y6, y7, y8, y9, y10, y11, y12⟩ := hs3.cells
      clear hpc
      go_upto_region 9 with fail
      go_quiet (fail)
      go_wp2
      clear y0 y1 y2 y3 y4 y5 y6 y7 y8 y9 y10 y11 y12 e0 z2
      go_loopw [6] (fun s6 wr => ∃ i : Nat, s6 = .int .i64 (i : Int) ∧ i ≤ pl ∧ Below w3.heap.size w3 wr) (fun s _ => pl - (intOf s).toNat)
      case atStart => exact ⟨0, rfl, by omega, below_drewN (Below.refl _ _) _⟩
      case round =>
        obtain ⟨i, rfl, hi, hbo⟩ := hrel
        generalize wr = wo at *
        have HBO := Lib.hid hbo
        have hso := hs3.call hbo
        have kl := kl2.call hbo
        by_cases hil : i < pl
        · have iz : (0 : Int) ≤ (i : Int) := by omega
          have il : (i : Int) < (pl : Int) := by omega
          obtain ⟨p, hp⟩ := at_some ps i (by have := HPN.out; omega)
          obtain ⟨s, hs⟩ := at_some r.inn i (by have := HPN.out; have := HPL.out.len; omega)
          obtain ⟨hp1, hp2⟩ := HPL.out.lt p (List.mem_of_getElem? hp)
          obtain ⟨it, hit⟩ := at_some run p hp2
          have HP := Lib.hid (show kk ≤ p ∧ p < rn by have := HRL.out; omega)
          have HPI := Lib.hid hp
          have gp0 := cell_call (HPC.out i p hp) hbo
          have tp0 : decide ((p : Int) < 0) = false := by simp
          have tp1 : decide ((rn : Int) ≤ (p : Int)) = false := by have := HP.out; simp; omega
          have tp1' : decide (rn ≤ p) = false := by have := HP.out; simp; omega
          have pz : (0 : Int) ≤ (p : Int) := by omega
          have prn : (p : Int) < (rn : Int) := by have := HP.out; omega
          have z2 : wo.cell? ⟨gl, 2, none⟩ = some (.slice (some ⟨rb, ro, none⟩) ln lc) := kl.cell 2
          have i1 := cell_call r1 hbo
          have h2o := h2.call hbo
          obtain ⟨ib, io, hA2, _, hsc⟩ := h2o.pos (by omega)
          subst hA2
          obtain ⟨cs, ⟨SA, sn, sc, rfl, hSr, hSd⟩, hcc⟩ := hsc i s hs
          have s1 := hcc 0 _ rfl
          rw [Nat.mul_one, Nat.add_zero] at s1
          obtain ⟨g0, g1, g2, g3, g4, g5⟩ := item_at hso.hI hit
          have hct := HPL.out.ins i p s it hp hs hit
          have HIN := Lib.hid fun (W : World) (h : Rd W (lo W.heap.size) SA sn s) => lin_t SA sn sc s it.g W h (Nat.le_trans hSd.1 hSd.2) hct
          have HSR := Lib.hid hSr
          have p1o := p1.call hbo
          clear g1 g2 g3 g4 g5 hct hcc hsc hs hit hp1 hp2 hSr hSd h2o
          have p1 := p1o
          clear p1o
          by_cases hi0 : i = 0
          · have ti0 : decide ((0 : Int) < (i : Int)) = false := by simp; omega
            have ti0' : decide (0 < i) = false := by simp; omega
            clear hp hi0
            obtain ⟨y0, y1, y2, y3, y4, y5, y6, y7, y8, y9, y10, y11, y12⟩ := hso.cells
            go_upto_region 14 with fail
            go_quiet ((go_at_call 21; (first | (with_reducible refine quiet_d (HIN.out _ ?_)) | (with_reducible refine quiet_add_d (HIN.out _ ?_))); exact HSR.out))
            clear y0 y1 y2 y3 y4 y5 y6 y7 y8 y9 y10 y11 y12 z2
            obtain ⟨y0, y1, y2, y3, y4, y5, y6, y7, y8, y9, y10, y11, y12⟩ := hso.cells
            go_wp2
            clear y0 y1 y2 y3 y4 y5 y6 y7 y8 y9 y10 y11 y12 tp0 tp1 tp1' i1 s1 g0
            go_loopw [7] (fun s7 w' => ∃ c : Nat, s7 = .int .i64 (c : Int) ∧ kk ≤ c ∧ True ∧ Below wo.heap.size wo w') (fun s _ => p - (intOf s).toNat)
            case atStart => exact ⟨kk, rfl, Nat.le_refl _, trivial, below_drewN (Below.refl _ _) _⟩
            case round =>
              obtain ⟨c, rfl, hkc, hcp, hbc⟩ := hrel
              have gq := cell_call gp0 hbc
              go_wp2
              go_roundw
              case rel => exact ⟨i + 1, by go_num, by omega, HBO.out.trans (hbc.mono HBO.out.size)⟩
              case measure => simp [intOf]; omega
          · obtain ⟨i', hii⟩ : ∃ i', i = i' + 1 := ⟨i - 1, by omega⟩
            obtain ⟨p', hp'⟩ := at_some ps i' (by have := HPN.out; omega)
            have hlt := HPL.out.up i' p p' hp' (by rw [← hii]; exact hp)
            have gp1 := cell_call (HPC.out i' p' hp') hbo
            have ti0 : decide ((0 : Int) < (i : Int)) = true := by simp; omega
            have ti0' : decide (0 < i) = true := by simp; omega
            have hw1 : IntKind.i64.wrap ((i : Int) - 1) = (i' : Int) := by rw [wrap_id (by omega) (by omega)]; omega
            have iz' : (0 : Int) ≤ (i' : Int) := by omega
            have il' : (i' : Int) < (pl : Int) := by omega
            have tq : decide ((p : Int) ≤ (p' : Int)) = false := by simp; omega
            have tq' : decide (p ≤ p') = false := by simp; omega
            clear hp hp' hii hlt hi0
            obtain ⟨y0, y1, y2, y3, y4, y5, y6, y7, y8, y9, y10, y11, y12⟩ := hso.cells
            go_upto_region 14 with fail
            go_quiet ((go_at_call 21; (first | (with_reducible refine quiet_d (HIN.out _ ?_)) | (with_reducible refine quiet_add_d (HIN.out _ ?_))); exact HSR.out))
            clear y0 y1 y2 y3 y4 y5 y6 y7 y8 y9 y10 y11 y12 z2 gp1 hw1 iz' il' tq tq'
            obtain ⟨y0, y1, y2, y3, y4, y5, y6, y7, y8, y9, y10, y11, y12⟩ := hso.cells
            go_wp2
            clear y0 y1 y2 y3 y4 y5 y6 y7 y8 y9 y10 y11 y12 tp0 tp1 tp1' i1 s1 g0
            go_loopw [7] (fun s7 w' => ∃ c : Nat, s7 = .int .i64 (c : Int) ∧ kk ≤ c ∧ c ≤ p ∧ Below wo.heap.size wo w') (fun s _ => p - (intOf s).toNat)
            case atStart => exact ⟨kk, rfl, Nat.le_refl _, by have := HP.out; omega, below_drewN (Below.refl _ _) _⟩
            case round =>
              obtain ⟨c, rfl, hkc, hcp, hbc⟩ := hrel
              have gq := cell_call gp0 hbc
              by_cases hcl : c < p
              · have tc : decide ((c : Int) < (p : Int)) = true := by simp; omega
                have tc' : decide (c < p) = true := by simp; omega
                have cz : (0 : Int) ≤ (c : Int) := by omega
                have crn : (c : Int) < (rn : Int) := by have := HP.out; omega
                have hsi := hso.call hbc
                obtain ⟨ic, hic⟩ := at_some run c (by have := HRL.out; have := HP.out; omega)
                have HIC := Lib.hid hic
                have HCP := Lib.hid hcl
                have kli := kl.call hbc
                have HS := Lib.hid fun (W : World) (bW : Below wr.heap.size wr W) => (show (W.cell? ⟨bf, 0, none⟩ = some (.int .i64 f.u0) ∧ W.cell? ⟨bf, 1, none⟩ = some (.slice f.ga f.gn f.gc) ∧ W.cell? ⟨bf, 2, none⟩ = some (.slice f.ca f.cn f.cc) ∧ W.cell? ⟨bf, 3, none⟩ = some (.slice f.la f.ln f.lc) ∧ W.cell? ⟨bf, 4, none⟩ = some (.slice f.a4 f.n4 f.c4) ∧ W.cell? ⟨bf, 5, none⟩ = some (.slice f.a5 f.n5 f.c5) ∧ W.cell? ⟨bf, 6, none⟩ = some (.slice f.a6 f.n6 f.c6) ∧ W.cell? ⟨bf, 7, none⟩ = some (.slice f.a7 f.n7 f.c7) ∧ W.cell? ⟨bf, 8, none⟩ = some (.slice f.a8 f.n8 f.c8) ∧ W.cell? ⟨bf, 9, none⟩ = some (.int .i64 (q : Int)) ∧ W.cell? ⟨bf, 10, none⟩ = some (.slice (some ⟨b, o, none⟩) rn rc) ∧ W.cell? ⟨bf, 11, none⟩ = some (.int .i64 (kk : Int)) ∧ W.cell? ⟨bf, 12, none⟩ = some (.slice FA fn fc)) ∧ (W.cell? ⟨b, o + c * 6, none⟩ = some (.int .i64 ic.g) ∧ W.cell? ⟨gl, 1, none⟩ = some (.bool lk.ign)) from ⟨(hsi.call bW).cells, (item_at (hsi.call bW).hI HIC.out).1, (kli.call bW).cell 1⟩)
                have bb := Below.refl wr.heap.size wr
                by_cases hmem : c ∈ ps
                · have HMEM := Lib.hid (natI_mem (v := true) (by simp [hmem] : decide (c ∈ ps) = true))
                  clear hic hmem hcl
                  go_wp2
                  clear gq
                  refine wp_region_held_drew (S := fun w' => (w'.cell? ⟨bf, 0, none⟩ = some (.int .i64 f.u0) ∧ w'.cell? ⟨bf, 1, none⟩ = some (.slice f.ga f.gn f.gc) ∧ w'.cell? ⟨bf, 2, none⟩ = some (.slice f.ca f.cn f.cc) ∧ w'.cell? ⟨bf, 3, none⟩ = some (.slice f.la f.ln f.lc) ∧ w'.cell? ⟨bf, 4, none⟩ = some (.slice f.a4 f.n4 f.c4) ∧ w'.cell? ⟨bf, 5, none⟩ = some (.slice f.a5 f.n5 f.c5) ∧ w'.cell? ⟨bf, 6, none⟩ = some (.slice f.a6 f.n6 f.c6) ∧ w'.cell? ⟨bf, 7, none⟩ = some (.slice f.a7 f.n7 f.c7) ∧ w'.cell? ⟨bf, 8, none⟩ = some (.slice f.a8 f.n8 f.c8) ∧ w'.cell? ⟨bf, 9, none⟩ = some (.int .i64 (q : Int)) ∧ w'.cell? ⟨bf, 10, none⟩ = some (.slice (some ⟨b, o, none⟩) rn rc) ∧ w'.cell? ⟨bf, 11, none⟩ = some (.int .i64 (kk : Int)) ∧ w'.cell? ⟨bf, 12, none⟩ = some (.slice FA fn fc)) ∧ (w'.cell? ⟨b, o + c * 6, none⟩ = some (.int .i64 ic.g) ∧ w'.cell? ⟨gl, 1, none⟩ = some (.bool lk.ign))) (by kernel_rfl) ?_ (fun hHeld => ?_)
                  · exact HS.out _ (below_drewN bb 1)
                  replace bb := below_drewN bb 1
                  change Below _ _ wr.drew at bb
                  generalize hw0 : wr.drew = W0 at hHeld bb ⊢
                  clear hw0
                  refine wpAnyH_take (i := 0) (v := ?_) (by simp only [List.getElem?_toArray]; rfl) (by kernel_rfl) (by kernel_rfl) (by kernel_rfl) (by exact fun _ _ _ h => h) (Or.inl ⟨by rfl, ?_⟩) (by assumption) ?_
                  rotate_left 1
                  · intro w hSw; (try dsimp only at hSw); go_simp; try with_reducible rfl
                  try conv => arg 8; simp only [Act.put, List.setIfInBounds_toArray, List.set_cons_zero, List.set_cons_succ]
                  refine wpAnyH_take (i := 1) (v := ?_) (by simp only [List.getElem?_toArray]; rfl) (by kernel_rfl) (by kernel_rfl) (by kernel_rfl) (by exact fun _ _ _ h => h) (Or.inl ⟨by rfl, ?_⟩) (by assumption) ?_
                  rotate_left 1
                  · intro w hSw; (try dsimp only at hSw); go_simp; try with_reducible rfl
                  try conv => arg 8; simp only [Act.put, List.setIfInBounds_toArray, List.set_cons_zero, List.set_cons_succ]
                  refine wpAnyH_ready (rs := [2]) (by kernel_rfl) (by simp) ?_
                  refine AllReadyH.cons (by simp only [List.getElem?_toArray]; rfl) (fun K hK => ?_) AllReadyH.nil
                  refine wanted_pos (by kernel_rfl) ?_
                  go_simp
                  clear hHeld
                  go_at_call 21
                  (with_reducible refine (lin_v _ _ _ _ _ true W0 (p1.call (hbc.trans (bb.mono hbc.size))) hpM HMEM.out).mono ?_)
                  rintro e W1 ⟨rfl, bn⟩
                  go_wp2_with fail
                  refine hK.out _ _ ?_ (fun hHeld => ?_)
                  · exact HS.out _ (bb.trans (bn.mono bb.size))
                  clear hK K
                  try conv => arg 8; simp only [Act.put, List.setIfInBounds_toArray, List.set_cons_zero, List.set_cons_succ]
                  replace bb := bb.trans (bn.mono bb.size)
                  clear bn
                  refine wpAnyH_take (i := 3) (v := ?_) (by simp only [List.getElem?_toArray]; rfl) (by kernel_rfl) (by kernel_rfl) (by kernel_rfl) (by exact fun _ _ _ h => h) (Or.inl ⟨by rfl, ?_⟩) (by assumption) ?_
                  rotate_left 1
                  · intro w hSw; (try dsimp only at hSw); go_simp; try with_reducible rfl
                  try conv => arg 8; simp only [Act.put, List.setIfInBounds_toArray, List.set_cons_zero, List.set_cons_succ]
                  refine wpAnyH_take (i := 4) (v := ?_) (by simp only [List.getElem?_toArray]; rfl) (by kernel_rfl) (by kernel_rfl) (by kernel_rfl) (by exact fun _ _ _ h => h) (Or.inl ⟨by rfl, ?_⟩) (by assumption) ?_
                  rotate_left 1
                  · intro w hSw; (try dsimp only at hSw); go_simp; try with_reducible rfl
                  try conv => arg 8; simp only [Act.put, List.setIfInBounds_toArray, List.set_cons_zero, List.set_cons_succ]
                  refine wpAnyH_take (i := 5) (v := undef) (by simp only [List.getElem?_toArray]; rfl) (by kernel_rfl) (by kernel_rfl) (by kernel_rfl) (by exact fun _ _ _ h => h) (Or.inr ⟨by rfl, rfl⟩) (by assumption) ?_
                  try conv => arg 8; simp only [Act.put, List.setIfInBounds_toArray, List.set_cons_zero, List.set_cons_succ]
                  refine wpAnyH_take (i := 6) (v := undef) (by simp only [List.getElem?_toArray]; rfl) (by kernel_rfl) (by kernel_rfl) (by kernel_rfl) (by exact fun _ _ _ h => h) (Or.inr ⟨by rfl, rfl⟩) (by assumption) ?_
                  try conv => arg 8; simp only [Act.put, List.setIfInBounds_toArray, List.set_cons_zero, List.set_cons_succ]
                  refine wpAnyH_take (i := 7) (v := undef) (by simp only [List.getElem?_toArray]; rfl) (by kernel_rfl) (by kernel_rfl) (by kernel_rfl) (by exact fun _ _ _ h => h) (Or.inr ⟨by rfl, rfl⟩) (by assumption) ?_
                  try conv => arg 8; simp only [Act.put, List.setIfInBounds_toArray, List.set_cons_zero, List.set_cons_succ]
                  refine wpAnyH_take (i := 8) (v := undef) (by simp only [List.getElem?_toArray]; rfl) (by kernel_rfl) (by kernel_rfl) (by kernel_rfl) (by exact fun _ _ _ h => h) (Or.inr ⟨by rfl, rfl⟩) (by assumption) ?_
                  try conv => arg 8; simp only [Act.put, List.setIfInBounds_toArray, List.set_cons_zero, List.set_cons_succ]
                  refine wpAnyH_take (i := 9) (v := undef) (by simp only [List.getElem?_toArray]; rfl) (by kernel_rfl) (by kernel_rfl) (by kernel_rfl) (by exact fun _ _ _ h => h) (Or.inr ⟨by rfl, rfl⟩) (by assumption) ?_
                  try conv => arg 8; simp only [Act.put, List.setIfInBounds_toArray, List.set_cons_zero, List.set_cons_succ]
                  refine wpAnyH_take (i := 10) (v := undef) (by simp only [List.getElem?_toArray]; rfl) (by kernel_rfl) (by kernel_rfl) (by kernel_rfl) (by exact fun _ _ _ h => h) (Or.inr ⟨by rfl, rfl⟩) (by assumption) ?_
                  try conv => arg 8; simp only [Act.put, List.setIfInBounds_toArray, List.set_cons_zero, List.set_cons_succ]
                  refine wpAnyH_take (i := 11) (v := undef) (by simp only [List.getElem?_toArray]; rfl) (by kernel_rfl) (by kernel_rfl) (by kernel_rfl) (by exact fun _ _ _ h => h) (Or.inr ⟨by rfl, rfl⟩) (by assumption) ?_
                  try conv => arg 8; simp only [Act.put, List.setIfInBounds_toArray, List.set_cons_zero, List.set_cons_succ]
                  refine wpAnyH_take (i := 12) (v := undef) (by simp only [List.getElem?_toArray]; rfl) (by kernel_rfl) (by kernel_rfl) (by kernel_rfl) (by exact fun _ _ _ h => h) (Or.inr ⟨by rfl, rfl⟩) (by assumption) ?_
                  try conv => arg 8; simp only [Act.put, List.setIfInBounds_toArray, List.set_cons_zero, List.set_cons_succ]
                  refine wpAnyH_take (i := 13) (v := undef) (by simp only [List.getElem?_toArray]; rfl) (by kernel_rfl) (by kernel_rfl) (by kernel_rfl) (by exact fun _ _ _ h => h) (Or.inr ⟨by rfl, rfl⟩) (by assumption) ?_
                  try conv => arg 8; simp only [Act.put, List.setIfInBounds_toArray, List.set_cons_zero, List.set_cons_succ]
                  refine wpAnyH_take (i := 14) (v := undef) (by simp only [List.getElem?_toArray]; rfl) (by kernel_rfl) (by kernel_rfl) (by kernel_rfl) (by exact fun _ _ _ h => h) (Or.inr ⟨by rfl, rfl⟩) (by assumption) ?_
                  try conv => arg 8; simp only [Act.put, List.setIfInBounds_toArray, List.set_cons_zero, List.set_cons_succ]
                  refine wpAnyH_take (i := 15) (v := undef) (by simp only [List.getElem?_toArray]; rfl) (by kernel_rfl) (by kernel_rfl) (by kernel_rfl) (by exact fun _ _ _ h => h) (Or.inr ⟨by rfl, rfl⟩) (by assumption) ?_
                  try conv => arg 8; simp only [Act.put, List.setIfInBounds_toArray, List.set_cons_zero, List.set_cons_succ]
                  refine wpAnyH_take (i := 16) (v := undef) (by simp only [List.getElem?_toArray]; rfl) (by kernel_rfl) (by kernel_rfl) (by kernel_rfl) (by exact fun _ _ _ h => h) (Or.inr ⟨by rfl, rfl⟩) (by assumption) ?_
                  try conv => arg 8; simp only [Act.put, List.setIfInBounds_toArray, List.set_cons_zero, List.set_cons_succ]
                  refine wpAnyH_take (i := 17) (v := undef) (by simp only [List.getElem?_toArray]; rfl) (by kernel_rfl) (by kernel_rfl) (by kernel_rfl) (by exact fun _ _ _ h => h) (Or.inr ⟨by rfl, rfl⟩) (by assumption) ?_
                  try conv => arg 8; simp only [Act.put, List.setIfInBounds_toArray, List.set_cons_zero, List.set_cons_succ]
                  refine wpAnyH_take (i := 18) (v := undef) (by simp only [List.getElem?_toArray]; rfl) (by kernel_rfl) (by kernel_rfl) (by kernel_rfl) (by exact fun _ _ _ h => h) (Or.inr ⟨by rfl, rfl⟩) (by assumption) ?_
                  try conv => arg 8; simp only [Act.put, List.setIfInBounds_toArray, List.set_cons_zero, List.set_cons_succ]
                  refine wpAnyH_take (i := 19) (v := ?_) (by simp only [List.getElem?_toArray]; rfl) (by kernel_rfl) (by kernel_rfl) (by kernel_rfl) (by exact fun _ _ _ h => h) (Or.inl ⟨by rfl, ?_⟩) (by assumption) ?_
                  rotate_left 1
                  · intro w hSw; (try dsimp only at hSw); go_simp; try with_reducible rfl
                  try conv => arg 8; simp only [Act.put, List.setIfInBounds_toArray, List.set_cons_zero, List.set_cons_succ]
                  refine wpAnyH_done (by kernel_rfl) ?_ _
                  have hbd := hbc.trans (bb.mono hbc.size)
                  clear hHeld HS bb hbc
                  go_wp2
                  go_roundw
                  case rel => exact ⟨c + 1, by go_num, by omega, by have := HCP.out; omega, hbd⟩
                  case measure => have := HCP.out; simp [intOf]; omega
                · have HMEM := Lib.hid (natI_mem (v := false) (by simp [hmem] : decide (c ∈ ps) = false))
                  obtain ⟨hig, hmk⟩ := HPL.out.mid i p c ic HPI.out hkc hcl hic hmem
                  have HMK := Lib.hid hmk
                  have HIG := Lib.hid hig
                  rw [HIG.out] at HS
                  clear hic hmem hcl hig hmk
                  go_wp2
                  clear gq
                  refine wp_region_held_drew (S := fun w' => (w'.cell? ⟨bf, 0, none⟩ = some (.int .i64 f.u0) ∧ w'.cell? ⟨bf, 1, none⟩ = some (.slice f.ga f.gn f.gc) ∧ w'.cell? ⟨bf, 2, none⟩ = some (.slice f.ca f.cn f.cc) ∧ w'.cell? ⟨bf, 3, none⟩ = some (.slice f.la f.ln f.lc) ∧ w'.cell? ⟨bf, 4, none⟩ = some (.slice f.a4 f.n4 f.c4) ∧ w'.cell? ⟨bf, 5, none⟩ = some (.slice f.a5 f.n5 f.c5) ∧ w'.cell? ⟨bf, 6, none⟩ = some (.slice f.a6 f.n6 f.c6) ∧ w'.cell? ⟨bf, 7, none⟩ = some (.slice f.a7 f.n7 f.c7) ∧ w'.cell? ⟨bf, 8, none⟩ = some (.slice f.a8 f.n8 f.c8) ∧ w'.cell? ⟨bf, 9, none⟩ = some (.int .i64 (q : Int)) ∧ w'.cell? ⟨bf, 10, none⟩ = some (.slice (some ⟨b, o, none⟩) rn rc) ∧ w'.cell? ⟨bf, 11, none⟩ = some (.int .i64 (kk : Int)) ∧ w'.cell? ⟨bf, 12, none⟩ = some (.slice FA fn fc)) ∧ (w'.cell? ⟨b, o + c * 6, none⟩ = some (.int .i64 ic.g) ∧ w'.cell? ⟨gl, 1, none⟩ = some (.bool true))) (by kernel_rfl) ?_ (fun hHeld => ?_)
                  · exact HS.out _ (below_drewN bb 1)
                  replace bb := below_drewN bb 1
                  change Below _ _ wr.drew at bb
                  generalize hw0 : wr.drew = W0 at hHeld bb ⊢
                  clear hw0
                  refine wpAnyH_take (i := 0) (v := ?_) (by simp only [List.getElem?_toArray]; rfl) (by kernel_rfl) (by kernel_rfl) (by kernel_rfl) (by exact fun _ _ _ h => h) (Or.inl ⟨by rfl, ?_⟩) (by assumption) ?_
                  rotate_left 1
                  · intro w hSw; (try dsimp only at hSw); go_simp; try with_reducible rfl
                  try conv => arg 8; simp only [Act.put, List.setIfInBounds_toArray, List.set_cons_zero, List.set_cons_succ]
                  refine wpAnyH_take (i := 1) (v := ?_) (by simp only [List.getElem?_toArray]; rfl) (by kernel_rfl) (by kernel_rfl) (by kernel_rfl) (by exact fun _ _ _ h => h) (Or.inl ⟨by rfl, ?_⟩) (by assumption) ?_
                  rotate_left 1
                  · intro w hSw; (try dsimp only at hSw); go_simp; try with_reducible rfl
                  try conv => arg 8; simp only [Act.put, List.setIfInBounds_toArray, List.set_cons_zero, List.set_cons_succ]
                  refine wpAnyH_ready (rs := [2]) (by kernel_rfl) (by simp) ?_
                  refine AllReadyH.cons (by simp only [List.getElem?_toArray]; rfl) (fun K hK => ?_) AllReadyH.nil
                  refine wanted_pos (by kernel_rfl) ?_
                  go_simp
                  clear hHeld
                  go_at_call 21
                  (with_reducible refine (lin_v _ _ _ _ _ false W0 (p1.call (hbc.trans (bb.mono hbc.size))) hpM HMEM.out).mono ?_)
                  rintro e W1 ⟨rfl, bn⟩
                  go_wp2_with fail
                  refine hK.out _ _ ?_ (fun hHeld => ?_)
                  · exact HS.out _ (bb.trans (bn.mono bb.size))
                  clear hK K
                  try conv => arg 8; simp only [Act.put, List.setIfInBounds_toArray, List.set_cons_zero, List.set_cons_succ]
                  replace bb := bb.trans (bn.mono bb.size)
                  clear bn
                  refine wpAnyH_take (i := 3) (v := ?_) (by simp only [List.getElem?_toArray]; rfl) (by kernel_rfl) (by kernel_rfl) (by kernel_rfl) (by exact fun _ _ _ h => h) (Or.inl ⟨by rfl, ?_⟩) (by assumption) ?_
                  rotate_left 1
                  · intro w hSw; (try dsimp only at hSw); go_simp; try with_reducible rfl
                  try conv => arg 8; simp only [Act.put, List.setIfInBounds_toArray, List.set_cons_zero, List.set_cons_succ]
                  refine wpAnyH_take (i := 4) (v := ?_) (by simp only [List.getElem?_toArray]; rfl) (by kernel_rfl) (by kernel_rfl) (by kernel_rfl) (by exact fun _ _ _ h => h) (Or.inl ⟨by rfl, ?_⟩) (by assumption) ?_
                  rotate_left 1
                  · intro w hSw; (try dsimp only at hSw); go_simp; try with_reducible rfl
                  try conv => arg 8; simp only [Act.put, List.setIfInBounds_toArray, List.set_cons_zero, List.set_cons_succ]
                  refine wpAnyH_take (i := 5) (v := ?_) (by simp only [List.getElem?_toArray]; rfl) (by kernel_rfl) (by kernel_rfl) (by kernel_rfl) (by exact fun _ _ _ h => h) (Or.inl ⟨by rfl, ?_⟩) (by assumption) ?_
                  rotate_left 1
                  · intro w hSw; (try dsimp only at hSw); go_simp; try with_reducible rfl
                  try conv => arg 8; simp only [Act.put, List.setIfInBounds_toArray, List.set_cons_zero, List.set_cons_succ]
                  refine wpAnyH_take (i := 6) (v := ?_) (by simp only [List.getElem?_toArray]; rfl) (by kernel_rfl) (by kernel_rfl) (by kernel_rfl) (by exact fun _ _ _ h => h) (Or.inl ⟨by rfl, ?_⟩) (by assumption) ?_
                  rotate_left 1
                  · intro w hSw; (try dsimp only at hSw); go_simp; try with_reducible rfl
                  try conv => arg 8; simp only [Act.put, List.setIfInBounds_toArray, List.set_cons_zero, List.set_cons_succ]
                  refine wpAnyH_take (i := 7) (v := ?_) (by simp only [List.getElem?_toArray]; rfl) (by kernel_rfl) (by kernel_rfl) (by kernel_rfl) (by exact fun _ _ _ h => h) (Or.inl ⟨by rfl, ?_⟩) (by assumption) ?_
                  rotate_left 1
                  · intro w hSw; (try dsimp only at hSw); go_simp; try with_reducible rfl
                  try conv => arg 8; simp only [Act.put, List.setIfInBounds_toArray, List.set_cons_zero, List.set_cons_succ]
                  refine wpAnyH_take (i := 8) (v := ?_) (by simp only [List.getElem?_toArray]; rfl) (by kernel_rfl) (by kernel_rfl) (by kernel_rfl) (by exact fun _ _ _ h => h) (Or.inl ⟨by rfl, ?_⟩) (by assumption) ?_
                  rotate_left 1
                  · intro w hSw; (try dsimp only at hSw); go_simp; try with_reducible rfl
                  try conv => arg 8; simp only [Act.put, List.setIfInBounds_toArray, List.set_cons_zero, List.set_cons_succ]
                  refine wpAnyH_take (i := 9) (v := ?_) (by simp only [List.getElem?_toArray]; rfl) (by kernel_rfl) (by kernel_rfl) (by kernel_rfl) (by exact fun _ _ _ h => h) (Or.inl ⟨by rfl, ?_⟩) (by assumption) ?_
                  rotate_left 1
                  · intro w hSw; (try dsimp only at hSw); go_simp; try with_reducible rfl
                  try conv => arg 8; simp only [Act.put, List.setIfInBounds_toArray, List.set_cons_zero, List.set_cons_succ]
                  refine wpAnyH_take (i := 10) (v := ?_) (by simp only [List.getElem?_toArray]; rfl) (by kernel_rfl) (by kernel_rfl) (by kernel_rfl) (by exact fun _ _ _ h => h) (Or.inl ⟨by rfl, ?_⟩) (by assumption) ?_
                  rotate_left 1
                  · intro w hSw; (try dsimp only at hSw); go_simp; try with_reducible rfl
                  try conv => arg 8; simp only [Act.put, List.setIfInBounds_toArray, List.set_cons_zero, List.set_cons_succ]
                  refine wpAnyH_take (i := 11) (v := ?_) (by simp only [List.getElem?_toArray]; rfl) (by kernel_rfl) (by kernel_rfl) (by kernel_rfl) (by exact fun _ _ _ h => h) (Or.inl ⟨by rfl, ?_⟩) (by assumption) ?_
                  rotate_left 1
                  · intro w hSw; (try dsimp only at hSw); go_simp; try with_reducible rfl
                  try conv => arg 8; simp only [Act.put, List.setIfInBounds_toArray, List.set_cons_zero, List.set_cons_succ]
                  refine wpAnyH_take (i := 12) (v := ?_) (by simp only [List.getElem?_toArray]; rfl) (by kernel_rfl) (by kernel_rfl) (by kernel_rfl) (by exact fun _ _ _ h => h) (Or.inl ⟨by rfl, ?_⟩) (by assumption) ?_
                  rotate_left 1
                  · intro w hSw; (try dsimp only at hSw); go_simp; try with_reducible rfl
                  try conv => arg 8; simp only [Act.put, List.setIfInBounds_toArray, List.set_cons_zero, List.set_cons_succ]
                  refine wpAnyH_take (i := 13) (v := ?_) (by simp only [List.getElem?_toArray]; rfl) (by kernel_rfl) (by kernel_rfl) (by kernel_rfl) (by exact fun _ _ _ h => h) (Or.inl ⟨by rfl, ?_⟩) (by assumption) ?_
                  rotate_left 1
                  · intro w hSw; (try dsimp only at hSw); go_simp; try with_reducible rfl
                  try conv => arg 8; simp only [Act.put, List.setIfInBounds_toArray, List.set_cons_zero, List.set_cons_succ]
                  refine wpAnyH_take (i := 14) (v := ?_) (by simp only [List.getElem?_toArray]; rfl) (by kernel_rfl) (by kernel_rfl) (by kernel_rfl) (by exact fun _ _ _ h => h) (Or.inl ⟨by rfl, ?_⟩) (by assumption) ?_
                  rotate_left 1
                  · intro w hSw; (try dsimp only at hSw); go_simp; try with_reducible rfl
                  try conv => arg 8; simp only [Act.put, List.setIfInBounds_toArray, List.set_cons_zero, List.set_cons_succ]
                  refine wpAnyH_take (i := 15) (v := ?_) (by simp only [List.getElem?_toArray]; rfl) (by kernel_rfl) (by kernel_rfl) (by kernel_rfl) (by exact fun _ _ _ h => h) (Or.inl ⟨by rfl, ?_⟩) (by assumption) ?_
                  rotate_left 1
                  · intro w hSw; (try dsimp only at hSw); go_simp; try with_reducible rfl
                  try conv => arg 8; simp only [Act.put, List.setIfInBounds_toArray, List.set_cons_zero, List.set_cons_succ]
                  refine wpAnyH_ready (rs := [16]) (by kernel_rfl) (by simp) ?_
                  refine AllReadyH.cons (by simp only [List.getElem?_toArray]; rfl) (fun K hK => ?_) AllReadyH.nil
                  refine wanted_pos (by kernel_rfl) ?_
                  go_simp
                  clear hHeld
                  go_at_call 22
                  (with_reducible refine (lmark_v f F _ true W1 (hsi.call bb).hf HMK.out).mono ?_)
                  rintro e W2 ⟨rfl, bn⟩
                  go_wp2_with fail
                  refine hK.out _ _ ?_ (fun hHeld => ?_)
                  · exact HS.out _ (bb.trans (bn.mono bb.size))
                  clear hK K
                  try conv => arg 8; simp only [Act.put, List.setIfInBounds_toArray, List.set_cons_zero, List.set_cons_succ]
                  replace bb := bb.trans (bn.mono bb.size)
                  clear bn
                  refine wpAnyH_take (i := 17) (v := ?_) (by simp only [List.getElem?_toArray]; rfl) (by kernel_rfl) (by kernel_rfl) (by kernel_rfl) (by exact fun _ _ _ h => h) (Or.inl ⟨by rfl, ?_⟩) (by assumption) ?_
                  rotate_left 1
                  · intro w hSw; (try dsimp only at hSw); go_simp; try with_reducible rfl
                  try conv => arg 8; simp only [Act.put, List.setIfInBounds_toArray, List.set_cons_zero, List.set_cons_succ]
                  refine wpAnyH_take (i := 18) (v := ?_) (by simp only [List.getElem?_toArray]; rfl) (by kernel_rfl) (by kernel_rfl) (by kernel_rfl) (by exact fun _ _ _ h => h) (Or.inl ⟨by rfl, ?_⟩) (by assumption) ?_
                  rotate_left 1
                  · intro w hSw; (try dsimp only at hSw); go_simp; try with_reducible rfl
                  try conv => arg 8; simp only [Act.put, List.setIfInBounds_toArray, List.set_cons_zero, List.set_cons_succ]
                  refine wpAnyH_take (i := 19) (v := ?_) (by simp only [List.getElem?_toArray]; rfl) (by kernel_rfl) (by kernel_rfl) (by kernel_rfl) (by exact fun _ _ _ h => h) (Or.inl ⟨by rfl, ?_⟩) (by assumption) ?_
                  rotate_left 1
                  · intro w hSw; (try dsimp only at hSw); go_simp; try with_reducible rfl
                  try conv => arg 8; simp only [Act.put, List.setIfInBounds_toArray, List.set_cons_zero, List.set_cons_succ]
                  refine wpAnyH_done (by kernel_rfl) ?_ _
                  have hbd := hbc.trans (bb.mono hbc.size)
                  clear hHeld HS bb hbc
                  go_wp2
                  go_roundw
                  case rel => exact ⟨c + 1, by go_num, by omega, by have := HCP.out; omega, hbd⟩
                  case measure => have := HCP.out; simp [intOf]; omega
              · have tc : decide ((c : Int) < (p : Int)) = false := by simp; omega
                have tc' : decide (c < p) = false := by simp; omega
                go_wp2
                go_roundw
                case rel => exact ⟨i + 1, by go_num, by omega, HBO.out.trans (hbc.mono HBO.out.size)⟩
                case measure => simp [intOf]; omega
        · have il : decide ((i : Int) < (pl : Int)) = false := by simp; omega
          have il' : decide (i < pl) = false := by simp; omega
          have hsX := hso
          clear hso hs3 hbo HBO kl kl2 p1 h2 r1
          by_cases hf0 : fn = 0
          · subst hf0
            have HS := Lib.hid fun (W : World) (bW : Below wo.heap.size wo W) => (show (W.cell? ⟨bf, 0, none⟩ = some (.int .i64 f.u0) ∧ W.cell? ⟨bf, 1, none⟩ = some (.slice f.ga f.gn f.gc) ∧ W.cell? ⟨bf, 2, none⟩ = some (.slice f.ca f.cn f.cc) ∧ W.cell? ⟨bf, 3, none⟩ = some (.slice f.la f.ln f.lc) ∧ W.cell? ⟨bf, 4, none⟩ = some (.slice f.a4 f.n4 f.c4) ∧ W.cell? ⟨bf, 5, none⟩ = some (.slice f.a5 f.n5 f.c5) ∧ W.cell? ⟨bf, 6, none⟩ = some (.slice f.a6 f.n6 f.c6) ∧ W.cell? ⟨bf, 7, none⟩ = some (.slice f.a7 f.n7 f.c7) ∧ W.cell? ⟨bf, 8, none⟩ = some (.slice f.a8 f.n8 f.c8) ∧ W.cell? ⟨bf, 9, none⟩ = some (.int .i64 (q : Int)) ∧ W.cell? ⟨bf, 10, none⟩ = some (.slice (some ⟨b, o, none⟩) rn rc) ∧ W.cell? ⟨bf, 11, none⟩ = some (.int .i64 (kk : Int)) ∧ W.cell? ⟨bf, 12, none⟩ = some (.slice FA 0 fc)) ∧ W.cell? ⟨b, o + kk * 6 + 2, none⟩ = some (.int .i64 i0.f) from ⟨(hsX.call bW).cells, (item_at (hsX.call bW).hI HI0.out).2.2.1⟩)
            have bb := Below.refl wo.heap.size wo
            go_wp2
            refine wp_region_held_drew (S := fun w' => (w'.cell? ⟨bf, 0, none⟩ = some (.int .i64 f.u0) ∧ w'.cell? ⟨bf, 1, none⟩ = some (.slice f.ga f.gn f.gc) ∧ w'.cell? ⟨bf, 2, none⟩ = some (.slice f.ca f.cn f.cc) ∧ w'.cell? ⟨bf, 3, none⟩ = some (.slice f.la f.ln f.lc) ∧ w'.cell? ⟨bf, 4, none⟩ = some (.slice f.a4 f.n4 f.c4) ∧ w'.cell? ⟨bf, 5, none⟩ = some (.slice f.a5 f.n5 f.c5) ∧ w'.cell? ⟨bf, 6, none⟩ = some (.slice f.a6 f.n6 f.c6) ∧ w'.cell? ⟨bf, 7, none⟩ = some (.slice f.a7 f.n7 f.c7) ∧ w'.cell? ⟨bf, 8, none⟩ = some (.slice f.a8 f.n8 f.c8) ∧ w'.cell? ⟨bf, 9, none⟩ = some (.int .i64 (q : Int)) ∧ w'.cell? ⟨bf, 10, none⟩ = some (.slice (some ⟨b, o, none⟩) rn rc) ∧ w'.cell? ⟨bf, 11, none⟩ = some (.int .i64 (kk : Int)) ∧ w'.cell? ⟨bf, 12, none⟩ = some (.slice FA 0 fc)) ∧ w'.cell? ⟨b, o + kk * 6 + 2, none⟩ = some (.int .i64 i0.f)) (by kernel_rfl) ?_ (fun hHeld => ?_)
            · exact HS.out _ (below_drewN bb 1)
            replace bb := below_drewN bb 1
            change Below _ _ wo.drew at bb
            generalize hw0 : wo.drew = W0 at hHeld bb ⊢
            clear hw0
            refine wpAnyH_ready (rs := [0]) (by kernel_rfl) (by simp) ?_
            refine AllReadyH.cons (by simp only [List.getElem?_toArray]; rfl) (fun K hK => ?_) AllReadyH.nil
            refine wanted_pos (by kernel_rfl) ?_
            go_simp
            clear hHeld
            go_at_call 17
            (with_reducible refine (ruled_c W0).mono ?_)
            rintro e W1 ⟨rfl, bn⟩
            go_wp2_with fail
            refine hK.out _ _ ?_ (fun hHeld => ?_)
            · exact HS.out _ (bb.trans (bn.mono bb.size))
            clear hK K
            try conv => arg 8; simp only [Act.put, List.setIfInBounds_toArray, List.set_cons_zero, List.set_cons_succ]
            replace bb := bb.trans (bn.mono bb.size)
            clear bn
            refine wpAnyH_take (i := 1) (v := ?_) (by simp only [List.getElem?_toArray]; rfl) (by kernel_rfl) (by kernel_rfl) (by kernel_rfl) (by exact fun _ _ _ h => h) (Or.inl ⟨by rfl, ?_⟩) (by assumption) ?_
            rotate_left 1
            · intro w hSw; (try dsimp only at hSw); go_simp; try with_reducible rfl
            try conv => arg 8; simp only [Act.put, List.setIfInBounds_toArray, List.set_cons_zero, List.set_cons_succ]
            refine wpAnyH_take (i := 2) (v := ?_) (by simp only [List.getElem?_toArray]; rfl) (by kernel_rfl) (by kernel_rfl) (by kernel_rfl) (by exact fun _ _ _ h => h) (Or.inl ⟨by rfl, ?_⟩) (by assumption) ?_
            rotate_left 1
            · intro w hSw; (try dsimp only at hSw); go_simp; try with_reducible rfl
            try conv => arg 8; simp only [Act.put, List.setIfInBounds_toArray, List.set_cons_zero, List.set_cons_succ]
            refine wpAnyH_take (i := 3) (v := ?_) (by simp only [List.getElem?_toArray]; rfl) (by kernel_rfl) (by kernel_rfl) (by kernel_rfl) (by exact fun _ _ _ h => h) (Or.inl ⟨by rfl, ?_⟩) (by assumption) ?_
            rotate_left 1
            · intro w hSw; (try dsimp only at hSw); go_simp; try with_reducible rfl
            try conv => arg 8; simp only [Act.put, List.setIfInBounds_toArray, List.set_cons_zero, List.set_cons_succ]
            refine wpAnyH_take (i := 4) (v := ?_) (by simp only [List.getElem?_toArray]; rfl) (by kernel_rfl) (by kernel_rfl) (by kernel_rfl) (by exact fun _ _ _ h => h) (Or.inl ⟨by rfl, ?_⟩) (by assumption) ?_
            rotate_left 1
            · intro w hSw; (try dsimp only at hSw); go_simp; try with_reducible rfl
            try conv => arg 8; simp only [Act.put, List.setIfInBounds_toArray, List.set_cons_zero, List.set_cons_succ]
            refine wpAnyH_take (i := 5) (v := ?_) (by simp only [List.getElem?_toArray]; rfl) (by kernel_rfl) (by kernel_rfl) (by kernel_rfl) (by exact fun _ _ _ h => h) (Or.inl ⟨by rfl, ?_⟩) (by assumption) ?_
            rotate_left 1
            · intro w hSw; (try dsimp only at hSw); go_simp; try with_reducible rfl
            try conv => arg 8; simp only [Act.put, List.setIfInBounds_toArray, List.set_cons_zero, List.set_cons_succ]
            refine wpAnyH_take (i := 6) (v := ?_) (by simp only [List.getElem?_toArray]; rfl) (by kernel_rfl) (by kernel_rfl) (by kernel_rfl) (by exact fun _ _ _ h => h) (Or.inl ⟨by rfl, ?_⟩) (by assumption) ?_
            rotate_left 1
            · intro w hSw; (try dsimp only at hSw); go_simp; try with_reducible rfl
            try conv => arg 8; simp only [Act.put, List.setIfInBounds_toArray, List.set_cons_zero, List.set_cons_succ]
            refine wpAnyH_take (i := 7) (v := undef) (by simp only [List.getElem?_toArray]; rfl) (by kernel_rfl) (by kernel_rfl) (by kernel_rfl) (by exact fun _ _ _ h => h) (Or.inr ⟨by rfl, rfl⟩) (by assumption) ?_
            try conv => arg 8; simp only [Act.put, List.setIfInBounds_toArray, List.set_cons_zero, List.set_cons_succ]
            refine wpAnyH_take (i := 8) (v := undef) (by simp only [List.getElem?_toArray]; rfl) (by kernel_rfl) (by kernel_rfl) (by kernel_rfl) (by exact fun _ _ _ h => h) (Or.inr ⟨by rfl, rfl⟩) (by assumption) ?_
            try conv => arg 8; simp only [Act.put, List.setIfInBounds_toArray, List.set_cons_zero, List.set_cons_succ]
            refine wpAnyH_take (i := 9) (v := undef) (by simp only [List.getElem?_toArray]; rfl) (by kernel_rfl) (by kernel_rfl) (by kernel_rfl) (by exact fun _ _ _ h => h) (Or.inr ⟨by rfl, rfl⟩) (by assumption) ?_
            try conv => arg 8; simp only [Act.put, List.setIfInBounds_toArray, List.set_cons_zero, List.set_cons_succ]
            refine wpAnyH_take (i := 10) (v := undef) (by simp only [List.getElem?_toArray]; rfl) (by kernel_rfl) (by kernel_rfl) (by kernel_rfl) (by exact fun _ _ _ h => h) (Or.inr ⟨by rfl, rfl⟩) (by assumption) ?_
            try conv => arg 8; simp only [Act.put, List.setIfInBounds_toArray, List.set_cons_zero, List.set_cons_succ]
            refine wpAnyH_take (i := 11) (v := undef) (by simp only [List.getElem?_toArray]; rfl) (by kernel_rfl) (by kernel_rfl) (by kernel_rfl) (by exact fun _ _ _ h => h) (Or.inr ⟨by rfl, rfl⟩) (by assumption) ?_
            try conv => arg 8; simp only [Act.put, List.setIfInBounds_toArray, List.set_cons_zero, List.set_cons_succ]
            refine wpAnyH_take (i := 12) (v := undef) (by simp only [List.getElem?_toArray]; rfl) (by kernel_rfl) (by kernel_rfl) (by kernel_rfl) (by exact fun _ _ _ h => h) (Or.inr ⟨by rfl, rfl⟩) (by assumption) ?_
            try conv => arg 8; simp only [Act.put, List.setIfInBounds_toArray, List.set_cons_zero, List.set_cons_succ]
            refine wpAnyH_take (i := 13) (v := undef) (by simp only [List.getElem?_toArray]; rfl) (by kernel_rfl) (by kernel_rfl) (by kernel_rfl) (by exact fun _ _ _ h => h) (Or.inr ⟨by rfl, rfl⟩) (by assumption) ?_
            try conv => arg 8; simp only [Act.put, List.setIfInBounds_toArray, List.set_cons_zero, List.set_cons_succ]
            refine wpAnyH_take (i := 14) (v := undef) (by simp only [List.getElem?_toArray]; rfl) (by kernel_rfl) (by kernel_rfl) (by kernel_rfl) (by exact fun _ _ _ h => h) (Or.inr ⟨by rfl, rfl⟩) (by assumption) ?_
            try conv => arg 8; simp only [Act.put, List.setIfInBounds_toArray, List.set_cons_zero, List.set_cons_succ]
            refine wpAnyH_take (i := 15) (v := undef) (by simp only [List.getElem?_toArray]; rfl) (by kernel_rfl) (by kernel_rfl) (by kernel_rfl) (by exact fun _ _ _ h => h) (Or.inr ⟨by rfl, rfl⟩) (by assumption) ?_
            try conv => arg 8; simp only [Act.put, List.setIfInBounds_toArray, List.set_cons_zero, List.set_cons_succ]
            refine wpAnyH_take (i := 16) (v := undef) (by simp only [List.getElem?_toArray]; rfl) (by kernel_rfl) (by kernel_rfl) (by kernel_rfl) (by exact fun _ _ _ h => h) (Or.inr ⟨by rfl, rfl⟩) (by assumption) ?_
            try conv => arg 8; simp only [Act.put, List.setIfInBounds_toArray, List.set_cons_zero, List.set_cons_succ]
            refine wpAnyH_take (i := 17) (v := ?_) (by simp only [List.getElem?_toArray]; rfl) (by kernel_rfl) (by kernel_rfl) (by kernel_rfl) (by exact fun _ _ _ h => h) (Or.inl ⟨by rfl, ?_⟩) (by assumption) ?_
            rotate_left 1
            · intro w hSw; (try dsimp only at hSw); go_simp; try with_reducible rfl
            try conv => arg 8; simp only [Act.put, List.setIfInBounds_toArray, List.set_cons_zero, List.set_cons_succ]
            refine wpAnyH_take (i := 18) (v := ?_) (by simp only [List.getElem?_toArray]; rfl) (by kernel_rfl) (by kernel_rfl) (by kernel_rfl) (by exact fun _ _ _ h => h) (Or.inl ⟨by rfl, ?_⟩) (by assumption) ?_
            rotate_left 1
            · intro w hSw; (try dsimp only at hSw); go_simp; try with_reducible rfl
            try conv => arg 8; simp only [Act.put, List.setIfInBounds_toArray, List.set_cons_zero, List.set_cons_succ]
            refine wpAnyH_take (i := 19) (v := ?_) (by simp only [List.getElem?_toArray]; rfl) (by kernel_rfl) (by kernel_rfl) (by kernel_rfl) (by exact fun _ _ _ h => h) (Or.inl ⟨by rfl, ?_⟩) (by assumption) ?_
            rotate_left 1
            · intro w hSw; (try dsimp only at hSw); go_simp; try with_reducible rfl
            try conv => arg 8; simp only [Act.put, List.setIfInBounds_toArray, List.set_cons_zero, List.set_cons_succ]
            refine wpAnyH_done (by kernel_rfl) ?_ _
            go_wp2
            go_ret
            exact ⟨rfl, (hsX.call bb).bw⟩
          · have HFM := Lib.hid (show forms.contains i0.f = true from (HPL.out.fo i0 HI0.out).resolve_left (fun e => hf0 (by have := hsX.hF.len; rw [e] at this; simpa using this.symm)))
            have tf : ((fn : Int) == 0) = false := by simp; omega
            have kz : (0 : Int) ≤ (kk : Int) := by omega
            have kl : (kk : Int) < (rn : Int) := by have := HRL.out; omega
            have HS := Lib.hid fun (W : World) (bW : Below wo.heap.size wo W) => (show (W.cell? ⟨bf, 0, none⟩ = some (.int .i64 f.u0) ∧ W.cell? ⟨bf, 1, none⟩ = some (.slice f.ga f.gn f.gc) ∧ W.cell? ⟨bf, 2, none⟩ = some (.slice f.ca f.cn f.cc) ∧ W.cell? ⟨bf, 3, none⟩ = some (.slice f.la f.ln f.lc) ∧ W.cell? ⟨bf, 4, none⟩ = some (.slice f.a4 f.n4 f.c4) ∧ W.cell? ⟨bf, 5, none⟩ = some (.slice f.a5 f.n5 f.c5) ∧ W.cell? ⟨bf, 6, none⟩ = some (.slice f.a6 f.n6 f.c6) ∧ W.cell? ⟨bf, 7, none⟩ = some (.slice f.a7 f.n7 f.c7) ∧ W.cell? ⟨bf, 8, none⟩ = some (.slice f.a8 f.n8 f.c8) ∧ W.cell? ⟨bf, 9, none⟩ = some (.int .i64 (q : Int)) ∧ W.cell? ⟨bf, 10, none⟩ = some (.slice (some ⟨b, o, none⟩) rn rc) ∧ W.cell? ⟨bf, 11, none⟩ = some (.int .i64 (kk : Int)) ∧ W.cell? ⟨bf, 12, none⟩ = some (.slice FA fn fc)) ∧ W.cell? ⟨b, o + kk * 6 + 2, none⟩ = some (.int .i64 i0.f) from ⟨(hsX.call bW).cells, (item_at (hsX.call bW).hI HI0.out).2.2.1⟩)
            have bb := Below.refl wo.heap.size wo
            clear hf0
            go_wp2
            refine wp_region_held_drew (S := fun w' => (w'.cell? ⟨bf, 0, none⟩ = some (.int .i64 f.u0) ∧ w'.cell? ⟨bf, 1, none⟩ = some (.slice f.ga f.gn f.gc) ∧ w'.cell? ⟨bf, 2, none⟩ = some (.slice f.ca f.cn f.cc) ∧ w'.cell? ⟨bf, 3, none⟩ = some (.slice f.la f.ln f.lc) ∧ w'.cell? ⟨bf, 4, none⟩ = some (.slice f.a4 f.n4 f.c4) ∧ w'.cell? ⟨bf, 5, none⟩ = some (.slice f.a5 f.n5 f.c5) ∧ w'.cell? ⟨bf, 6, none⟩ = some (.slice f.a6 f.n6 f.c6) ∧ w'.cell? ⟨bf, 7, none⟩ = some (.slice f.a7 f.n7 f.c7) ∧ w'.cell? ⟨bf, 8, none⟩ = some (.slice f.a8 f.n8 f.c8) ∧ w'.cell? ⟨bf, 9, none⟩ = some (.int .i64 (q : Int)) ∧ w'.cell? ⟨bf, 10, none⟩ = some (.slice (some ⟨b, o, none⟩) rn rc) ∧ w'.cell? ⟨bf, 11, none⟩ = some (.int .i64 (kk : Int)) ∧ w'.cell? ⟨bf, 12, none⟩ = some (.slice FA fn fc)) ∧ w'.cell? ⟨b, o + kk * 6 + 2, none⟩ = some (.int .i64 i0.f)) (by kernel_rfl) ?_ (fun hHeld => ?_)
            · exact HS.out _ (below_drewN bb 1)
            replace bb := below_drewN bb 1
            change Below _ _ wo.drew at bb
            generalize hw0 : wo.drew = W0 at hHeld bb ⊢
            clear hw0
            refine wpAnyH_ready (rs := [0]) (by kernel_rfl) (by simp) ?_
            refine AllReadyH.cons (by simp only [List.getElem?_toArray]; rfl) (fun K hK => ?_) AllReadyH.nil
            refine wanted_pos (by kernel_rfl) ?_
            go_simp
            clear hHeld
            go_at_call 17
            (with_reducible refine (ruled_c W0).mono ?_)
            rintro e W1 ⟨rfl, bn⟩
            go_wp2_with fail
            refine hK.out _ _ ?_ (fun hHeld => ?_)
            · exact HS.out _ (bb.trans (bn.mono bb.size))
            clear hK K
            try conv => arg 8; simp only [Act.put, List.setIfInBounds_toArray, List.set_cons_zero, List.set_cons_succ]
            replace bb := bb.trans (bn.mono bb.size)
            clear bn
            refine wpAnyH_take (i := 1) (v := ?_) (by simp only [List.getElem?_toArray]; rfl) (by kernel_rfl) (by kernel_rfl) (by kernel_rfl) (by exact fun _ _ _ h => h) (Or.inl ⟨by rfl, ?_⟩) (by assumption) ?_
            rotate_left 1
            · intro w hSw; (try dsimp only at hSw); go_simp; try with_reducible rfl
            try conv => arg 8; simp only [Act.put, List.setIfInBounds_toArray, List.set_cons_zero, List.set_cons_succ]
            refine wpAnyH_take (i := 2) (v := ?_) (by simp only [List.getElem?_toArray]; rfl) (by kernel_rfl) (by kernel_rfl) (by kernel_rfl) (by exact fun _ _ _ h => h) (Or.inl ⟨by rfl, ?_⟩) (by assumption) ?_
            rotate_left 1
            · intro w hSw; (try dsimp only at hSw); go_simp; try with_reducible rfl
            try conv => arg 8; simp only [Act.put, List.setIfInBounds_toArray, List.set_cons_zero, List.set_cons_succ]
            refine wpAnyH_take (i := 3) (v := ?_) (by simp only [List.getElem?_toArray]; rfl) (by kernel_rfl) (by kernel_rfl) (by kernel_rfl) (by exact fun _ _ _ h => h) (Or.inl ⟨by rfl, ?_⟩) (by assumption) ?_
            rotate_left 1
            · intro w hSw; (try dsimp only at hSw); go_simp; try with_reducible rfl
            try conv => arg 8; simp only [Act.put, List.setIfInBounds_toArray, List.set_cons_zero, List.set_cons_succ]
            refine wpAnyH_take (i := 4) (v := ?_) (by simp only [List.getElem?_toArray]; rfl) (by kernel_rfl) (by kernel_rfl) (by kernel_rfl) (by exact fun _ _ _ h => h) (Or.inl ⟨by rfl, ?_⟩) (by assumption) ?_
            rotate_left 1
            · intro w hSw; (try dsimp only at hSw); go_simp; try with_reducible rfl
            try conv => arg 8; simp only [Act.put, List.setIfInBounds_toArray, List.set_cons_zero, List.set_cons_succ]
            refine wpAnyH_take (i := 5) (v := ?_) (by simp only [List.getElem?_toArray]; rfl) (by kernel_rfl) (by kernel_rfl) (by kernel_rfl) (by exact fun _ _ _ h => h) (Or.inl ⟨by rfl, ?_⟩) (by assumption) ?_
            rotate_left 1
            · intro w hSw; (try dsimp only at hSw); go_simp; try with_reducible rfl
            try conv => arg 8; simp only [Act.put, List.setIfInBounds_toArray, List.set_cons_zero, List.set_cons_succ]
            refine wpAnyH_take (i := 6) (v := ?_) (by simp only [List.getElem?_toArray]; rfl) (by kernel_rfl) (by kernel_rfl) (by kernel_rfl) (by exact fun _ _ _ h => h) (Or.inl ⟨by rfl, ?_⟩) (by assumption) ?_
            rotate_left 1
            · intro w hSw; (try dsimp only at hSw); go_simp; try with_reducible rfl
            try conv => arg 8; simp only [Act.put, List.setIfInBounds_toArray, List.set_cons_zero, List.set_cons_succ]
            refine wpAnyH_take (i := 7) (v := ?_) (by simp only [List.getElem?_toArray]; rfl) (by kernel_rfl) (by kernel_rfl) (by kernel_rfl) (by exact fun _ _ _ h => h) (Or.inl ⟨by rfl, ?_⟩) (by assumption) ?_
            rotate_left 1
            · intro w hSw; (try dsimp only at hSw); go_simp; try with_reducible rfl
            try conv => arg 8; simp only [Act.put, List.setIfInBounds_toArray, List.set_cons_zero, List.set_cons_succ]
            refine wpAnyH_take (i := 8) (v := ?_) (by simp only [List.getElem?_toArray]; rfl) (by kernel_rfl) (by kernel_rfl) (by kernel_rfl) (by exact fun _ _ _ h => h) (Or.inl ⟨by rfl, ?_⟩) (by assumption) ?_
            rotate_left 1
            · intro w hSw; (try dsimp only at hSw); go_simp; try with_reducible rfl
            try conv => arg 8; simp only [Act.put, List.setIfInBounds_toArray, List.set_cons_zero, List.set_cons_succ]
            refine wpAnyH_take (i := 9) (v := ?_) (by simp only [List.getElem?_toArray]; rfl) (by kernel_rfl) (by kernel_rfl) (by kernel_rfl) (by exact fun _ _ _ h => h) (Or.inl ⟨by rfl, ?_⟩) (by assumption) ?_
            rotate_left 1
            · intro w hSw; (try dsimp only at hSw); go_simp; try with_reducible rfl
            try conv => arg 8; simp only [Act.put, List.setIfInBounds_toArray, List.set_cons_zero, List.set_cons_succ]
            refine wpAnyH_take (i := 10) (v := ?_) (by simp only [List.getElem?_toArray]; rfl) (by kernel_rfl) (by kernel_rfl) (by kernel_rfl) (by exact fun _ _ _ h => h) (Or.inl ⟨by rfl, ?_⟩) (by assumption) ?_
            rotate_left 1
            · intro w hSw; (try dsimp only at hSw); go_simp; try with_reducible rfl
            try conv => arg 8; simp only [Act.put, List.setIfInBounds_toArray, List.set_cons_zero, List.set_cons_succ]
            refine wpAnyH_take (i := 11) (v := ?_) (by simp only [List.getElem?_toArray]; rfl) (by kernel_rfl) (by kernel_rfl) (by kernel_rfl) (by exact fun _ _ _ h => h) (Or.inl ⟨by rfl, ?_⟩) (by assumption) ?_
            rotate_left 1
            · intro w hSw; (try dsimp only at hSw); go_simp; try with_reducible rfl
            try conv => arg 8; simp only [Act.put, List.setIfInBounds_toArray, List.set_cons_zero, List.set_cons_succ]
            refine wpAnyH_take (i := 12) (v := ?_) (by simp only [List.getElem?_toArray]; rfl) (by kernel_rfl) (by kernel_rfl) (by kernel_rfl) (by exact fun _ _ _ h => h) (Or.inl ⟨by rfl, ?_⟩) (by assumption) ?_
            rotate_left 1
            · intro w hSw; (try dsimp only at hSw); go_simp; try with_reducible rfl
            try conv => arg 8; simp only [Act.put, List.setIfInBounds_toArray, List.set_cons_zero, List.set_cons_succ]
            refine wpAnyH_take (i := 13) (v := ?_) (by simp only [List.getElem?_toArray]; rfl) (by kernel_rfl) (by kernel_rfl) (by kernel_rfl) (by exact fun _ _ _ h => h) (Or.inl ⟨by rfl, ?_⟩) (by assumption) ?_
            rotate_left 1
            · intro w hSw; (try dsimp only at hSw); go_simp; try with_reducible rfl
            try conv => arg 8; simp only [Act.put, List.setIfInBounds_toArray, List.set_cons_zero, List.set_cons_succ]
            refine wpAnyH_take (i := 14) (v := ?_) (by simp only [List.getElem?_toArray]; rfl) (by kernel_rfl) (by kernel_rfl) (by kernel_rfl) (by exact fun _ _ _ h => h) (Or.inl ⟨by rfl, ?_⟩) (by assumption) ?_
            rotate_left 1
            · intro w hSw; (try dsimp only at hSw); go_simp; try with_reducible rfl
            try conv => arg 8; simp only [Act.put, List.setIfInBounds_toArray, List.set_cons_zero, List.set_cons_succ]
            refine wpAnyH_take (i := 15) (v := ?_) (by simp only [List.getElem?_toArray]; rfl) (by kernel_rfl) (by kernel_rfl) (by kernel_rfl) (by exact fun _ _ _ h => h) (Or.inl ⟨by rfl, ?_⟩) (by assumption) ?_
            rotate_left 1
            · intro w hSw; (try dsimp only at hSw); go_simp; try with_reducible rfl
            try conv => arg 8; simp only [Act.put, List.setIfInBounds_toArray, List.set_cons_zero, List.set_cons_succ]
            refine wpAnyH_ready (rs := [16]) (by kernel_rfl) (by simp) ?_
            refine AllReadyH.cons (by simp only [List.getElem?_toArray]; rfl) (fun K hK => ?_) AllReadyH.nil
            refine wanted_pos (by kernel_rfl) ?_
            go_simp
            clear hHeld
            go_at_call 21
            (with_reducible refine (lin_v FA fn fc forms _ true W1 (hsX.call bb).hF hfnM HFM.out).mono ?_)
            rintro e W2 ⟨rfl, bn⟩
            go_wp2_with fail
            refine hK.out _ _ ?_ (fun hHeld => ?_)
            · exact HS.out _ (bb.trans (bn.mono bb.size))
            clear hK K
            try conv => arg 8; simp only [Act.put, List.setIfInBounds_toArray, List.set_cons_zero, List.set_cons_succ]
            replace bb := bb.trans (bn.mono bb.size)
            clear bn
            refine wpAnyH_take (i := 17) (v := ?_) (by simp only [List.getElem?_toArray]; rfl) (by kernel_rfl) (by kernel_rfl) (by kernel_rfl) (by exact fun _ _ _ h => h) (Or.inl ⟨by rfl, ?_⟩) (by assumption) ?_
            rotate_left 1
            · intro w hSw; (try dsimp only at hSw); go_simp; try with_reducible rfl
            try conv => arg 8; simp only [Act.put, List.setIfInBounds_toArray, List.set_cons_zero, List.set_cons_succ]
            refine wpAnyH_take (i := 18) (v := ?_) (by simp only [List.getElem?_toArray]; rfl) (by kernel_rfl) (by kernel_rfl) (by kernel_rfl) (by exact fun _ _ _ h => h) (Or.inl ⟨by rfl, ?_⟩) (by assumption) ?_
            rotate_left 1
            · intro w hSw; (try dsimp only at hSw); go_simp; try with_reducible rfl
            try conv => arg 8; simp only [Act.put, List.setIfInBounds_toArray, List.set_cons_zero, List.set_cons_succ]
            refine wpAnyH_take (i := 19) (v := ?_) (by simp only [List.getElem?_toArray]; rfl) (by kernel_rfl) (by kernel_rfl) (by kernel_rfl) (by exact fun _ _ _ h => h) (Or.inl ⟨by rfl, ?_⟩) (by assumption) ?_
            rotate_left 1
            · intro w hSw; (try dsimp only at hSw); go_simp; try with_reducible rfl
            try conv => arg 8; simp only [Act.put, List.setIfInBounds_toArray, List.set_cons_zero, List.set_cons_succ]
            refine wpAnyH_done (by kernel_rfl) ?_ _
            go_wp2
            go_ret
            exact ⟨rfl, (hsX.call bb).bw⟩

end Go.Proofs.Ytkoocipagndclaa
