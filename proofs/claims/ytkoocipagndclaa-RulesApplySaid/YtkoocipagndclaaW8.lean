/- Walks: match. -/
import Derived.Test.YtkoocipagndclaaW7
namespace Go.Proofs.Ytkoocipagndclaa
open Go.RowKit Go.Shelf
attribute [local go_sem ↓] Go.wp_at_zero Go.wp_at_succ

theorem inSets_take (run : List Itm) (sets : List (List Int)) (places : List Nat) (n : Nat) (h : sets.length ≤ n) : inSets run sets (places.take n) = inSets run sets places := by
  induction sets generalizing places n with
  | nil => simp [inSets]
  | cons s ss ih =>
    cases n with
    | zero => simp at h
    | succ n =>
      cases places with
      | nil => simp
      | cons p ps => rw [List.take_succ_cons, inSets_cons, inSets_cons, ih ps n (by simp at h; omega)]
theorem fits_take (run : List Itm) (r : Rul) (fore back : List Nat) (fo bak : Nat) (h1 : r.inn.length + r.ahead.length ≤ fo) (h2 : r.back.length ≤ bak) : fits run r (fore.take fo) (back.take bak) = fits run r fore back := by
  unfold fits
  have e1 : (fore.take fo).drop r.inn.length = (fore.drop r.inn.length).take (fo - r.inn.length) := by rw [List.drop_take]
  have e2 : (r.inn.length + r.ahead.length ≤ (fore.take fo).length) = (r.inn.length + r.ahead.length ≤ fore.length) := by rw [List.length_take]; simp only [eq_iff_iff]; omega
  have e3 : (r.back.length ≤ (back.take bak).length) = (r.back.length ≤ back.length) := by rw [List.length_take]; simp only [eq_iff_iff]; omega
  rw [e1, inSets_take _ _ _ _ (by omega), inSets_take _ _ _ _ (by omega), inSets_take _ _ _ _ (by omega)]
  simp only [e2, e3]
theorem firstR_none {p : Rul → Bool} {rs : List Rul} {n : Nat} (h : ∀ (j : Nat) (r : Rul), rs[j]? = some r → p r = false) : firstR p rs n = none := by
  induction rs generalizing n with
  | nil => rfl
  | cons r rs ih =>
    rw [firstR, if_neg (by rw [h 0 r rfl]; simp)]
    exact ih fun j q hq => h (j + 1) q hq
theorem firstR_some {p : Rul → Bool} {rs : List Rul} {n k : Nat} {r : Rul} (hk : rs[k]? = some r) (hp : p r = true) (h : ∀ (j : Nat) (q : Rul), j < k → rs[j]? = some q → p q = false) : firstR p rs n = some (n + k, r) := by
  induction rs generalizing n k with
  | nil => simp at hk
  | cons q rs ih =>
    cases k with
    | zero => simp at hk; subst hk; rw [firstR, if_pos hp]; rfl
    | succ k =>
      rw [firstR, if_neg (by rw [h 0 q (by omega) rfl]; simp), ih (by simpa using hk) (fun j x hj hx => h (j + 1) x (by omega) (by simpa using hx))]
      congr 2; omega

/-- What match leaves: the answer, and what lay below is as it was. -/
def MPost (w : World) (ans : Option (Nat × List Nat)) (e : Ending) (w' : World) : Prop :=
  match ans with
  | none => e = .returned (.tuple #[.int .i64 (-1), .slice none 0 0]) ∧ Below w.heap.size w w'
  | some (n, ps) => ∃ A c, e = .returned (.tuple #[.int .i64 (n : Int), .slice A ps.length c]) ∧ Rd w' (Sol w') A ps.length (natI ps) ∧ Hd ps.length c ∧ Below w.heap.size w w'

set_option maxRecDepth 100000 in
set_option maxHeartbeats 4000000 in
theorem match_c (h : FuncId) (P : List Int → Prop) (hh : HasOK h P) (Bw Bm : Nat) (f : FV) (F : Fnt) (RA FA MA : Option Addr) (rn rc fn fc mn mc : Nat) (run : List Itm) (lk : Lk) (fo bak : Nat) (k : Int) (forms : List Int) (w : World)
    (hf : IsF w (lo w.heap.size) f F) (h1 : w.cell? ⟨Bw, 1, none⟩ = some (.slice f.ga f.gn f.gc)) (h9 : w.cell? ⟨Bw, 9, none⟩ = some (.slice RA rn rc)) (hI : RdI w (lo w.heap.size) RA rn run)
    (m0 : w.cell? ⟨Bm, 0, none⟩ = some (.slice MA mn mc)) (m1 : w.cell? ⟨Bm, 1, none⟩ = some (.bool lk.ign)) (m2 : w.cell? ⟨Bm, 2, none⟩ = some (.func (.func h) #[] #[])) (m3 : w.cell? ⟨Bm, 3, none⟩ = some (.int .i64 (fo : Int))) (m4 : w.cell? ⟨Bm, 4, none⟩ = some (.int .i64 (bak : Int)))
    (hR : RdR w (lo w.heap.size) MA mn lk.rules) (hF : Rd w (lo w.heap.size) FA fn forms) (hs : ∀ r ∈ lk.rules, (∀ s ∈ r.inn, P s) ∧ (∀ s ∈ r.ahead, P s) ∧ (∀ s ∈ r.back, P s))
    (hfo : ∀ r ∈ lk.rules, r.inn.length + r.ahead.length ≤ fo) (hba : ∀ r ∈ lk.rules, r.back.length ≤ bak) (hrn : rn ≤ 2999999999999) (hfn : fn ≤ 9223372036854775807) (hmn : mn ≤ 9223372036854775806) (bfo : fo ≤ 9223372036854775807) (bba : bak ≤ 9223372036854775807) :
    Calls Try.prog 25 #[.pointer (some ⟨Bw, 0, none⟩), .pointer (some ⟨Bm, 0, none⟩), .int .i64 k, .slice FA fn fc] w (MPost w (matchL F lk run k forms)) := by
  have hlr := hI.len
  have HBG := Lib.hid (begins_c Bw Bm f F RA FA rn rc fn fc run lk.ign k forms w hf h1 h9 hI m1 hF (by omega) hfn)
  cases hb : begL F lk.ign run k forms with
  | false =>
    have e : matchL F lk run k forms = none := by unfold matchL; rw [if_neg (by rw [hb]; simp)]
    rw [e]
    rw [hb] at HBG
    clear e hb hlr
    go_enter Try.func25, Try.ntmps25
    go_wp2_with (go_at_call 37; refine HBG.out.mono ?_; rintro e w' ⟨rfl, rfl⟩)
    go_ret2
    exact ⟨rfl, Below.refl _ _⟩
  | true =>
    have hk : 0 ≤ k ∧ k < run.length := by
      unfold begL at hb
      simp only [Bool.and_eq_true, decide_eq_true_eq] at hb
      exact hb.1.1
    obtain ⟨k, rfl⟩ : ∃ j : Nat, k = j := ⟨k.toNat, by omega⟩
    rw [hb] at HBG
    have hmL : matchL F lk run (k : Int) forms = match firstR (fun r => fits run r (foreL F lk.ign run k) (backL F lk.ign run k)) lk.rules 0 with | some (n, r) => some (n, (foreL F lk.ign run k).take r.inn.length) | none => none := by
      unfold matchL; rw [if_pos hb, Int.toNat_natCast]; rfl
    obtain ⟨ans, hans⟩ : ∃ ans, ans = matchL F lk run (k : Int) forms := ⟨_, rfl⟩
    rw [← hans]
    rw [hmL] at hans
    clear hmL hb
    obtain ⟨fore, hfe⟩ : ∃ l, l = foreL F lk.ign run k := ⟨_, rfl⟩
    obtain ⟨back, hbe⟩ : ∃ l, l = backL F lk.ign run k := ⟨_, rfl⟩
    have pf : ∀ p ∈ fore, p < run.length := fun p hp => by rw [hfe] at hp; exact (upL_mem.1 hp).2.1
    have pb : ∀ p ∈ back, p < run.length := fun p hp => by rw [hbe] at hp; have := (dnL_mem.1 hp).1; omega
    have hkr : k ≤ rn := by omega
    have hk0 : (1 : Int) ≤ (k : Int) + 1 := by omega
    have hkm : (k : Int) ≤ 2999999999999 := by omega
    rw [← hfe, ← hbe] at hans
    have HANS := Lib.hid hans
    have HFE := Lib.hid hfe; have HBE := Lib.hid hbe
    have PF := Lib.hid pf; have PB := Lib.hid pb; have HL := Lib.hid hlr
    have HS := Lib.hid hs; have HFO := Lib.hid hfo; have HBA := Lib.hid hba
    clear hfe hbe pf pb hs hfo hba hlr hk hans
    go_enter Try.func25, Try.ntmps25
    go_wp2_with (go_at_call 37; refine HBG.out.mono ?_; rintro e w' ⟨rfl, rfl⟩)
    go_region_held3 (fun w' => w'.cell? ⟨Bm, 3, none⟩ = some (.int .i64 (fo : Int)) ∧ w'.cell? ⟨Bm, 1, none⟩ = some (.bool lk.ign)) (first | go_keep | exact ⟨z3, z1⟩) (first
      | (go_at_call 39; refine (seen_p Bw f F RA rn rc run lk.ign (k : Int) 1 _ (by exact hf) (by exact h1) (by exact h9) (by exact hI) (by omega)).mono ?_; rintro e w3 ⟨B1, B2, B3, B4, rfl, hIt, hb3⟩; have z3 := cell_call (by exact m3) hb3; have z1 := cell_call (by exact m1) hb3)
      | (go_at_call 38; refine (first_c fo w3.heap.size (rn + 1) _ _ w3 (seenUp_stops 4 w3.heap.size _ _ _ _ _ _ _ _ _ _ _ _ k w3 (by omega) hIt) (Nat.le_refl _) (by omega) (by omega)).mono ?_; rintro e w4 ⟨A4, n4, c4, rfl, ho4, hb4⟩; have z3 := cell_call z3 hb4; have z1 := cell_call z1 hb4))
    have bb4 := below_call hb3 hb4
    have hfull : upL (seenB F lk.ign run) rn k = fore := by rw [HFE.out]; unfold foreL; rw [HL.out]
    rw [hfull] at ho4
    replace bb4 : Below w.heap.size w w4 := ⟨bb4.os, bb4.tape, bb4.output, bb4.size, bb4.block⟩
    have hb3s : w.heap.size ≤ w3.heap.size := by have := hb3.size; simpa using this
    clear hfull hIt z3 z1 hb3 hb4
    have hf4 := hf.call bb4
    have h14 := cell_call h1 bb4
    have h94 := cell_call h9 bb4
    have hI4 := hI.call bb4
    have m14 := cell_call m1 bb4
    have m44 := cell_call m4 bb4
    have hk2 : IntKind.i64.wrap ((k : Int) - 1) = (k : Int) - 1 := IntWalk.i64_in _ (by omega)
    go_wp2
    go_region_held3 (fun w' => w'.cell? ⟨Bm, 4, none⟩ = some (.int .i64 (bak : Int)) ∧ w'.cell? ⟨Bm, 1, none⟩ = some (.bool lk.ign)) (first | go_keep | exact ⟨z3, z1⟩) (first
      | (go_at_call 39; refine (seen_p Bw f F RA rn rc run lk.ign ((k : Int) - 1) (-1) _ (by exact hf4) (by exact h14) (by exact h94) (by exact hI4) (by omega)).mono ?_; rintro e w5 ⟨B1, B2, B3, B4, rfl, hIt, hb5⟩; have z3 := cell_call (by exact m44) hb5; have z1 := cell_call (by exact m14) hb5)
      | (go_at_call 38; refine (first_c bak w5.heap.size (rn + 1) _ _ w5 (seenDn_stops 4 w5.heap.size _ _ _ _ _ _ _ _ _ _ _ _ k w5 (by omega) hIt hkr) (Nat.le_refl _) (by omega) (by omega)).mono ?_; rintro e w6 ⟨A6, n6, c6, rfl, ho6, hb6⟩; have z3 := cell_call z3 hb6; have z1 := cell_call z1 hb6))
    replace hb5 : Below w4.heap.size w4 w5 := ⟨hb5.os, hb5.tape, hb5.output, hb5.size, hb5.block⟩
    have bb6 := below_call bb4 (below_call hb5 hb6)
    have ho4' : Ow 3 1 w6 w.heap.size A4 n4 c4 (ic (natI (fore.take fo))) := ((ho4.call (below_call hb5 hb6)).lower hb3s)
    have hfull : dnL (seenB F lk.ign run) k = back := by rw [HBE.out]; rfl
    rw [hfull] at ho6
    have ho6' : Ow 3 1 w6 w.heap.size A6 n6 c6 (ic (natI (back.take bak))) := ho6.lower (by have := hb5.size; have := bb4.size; omega)
    have m06 := cell_call m0 bb6
    clear hfull hIt z3 z1 hb5 hb6 hf4 h14 h94 hI4 m14 m44 hk2 ho4 ho6 bb4
    go_wp2
    go_loopw [50] (fun i wr => ∃ j : Nat, j ≤ mn ∧ i = .int .i64 j ∧ (∀ (q : Nat) (r : Rul), q < j → lk.rules[q]? = some r → fits run r fore back = false) ∧ Below w.heap.size w wr ∧ Ow 3 1 wr w.heap.size A4 n4 c4 (ic (natI (fore.take fo))) ∧ Ow 3 1 wr w.heap.size A6 n6 c6 (ic (natI (back.take bak)))) (fun i _ => mn - (intOf i).toNat)
    case atStart => exact ⟨0, by omega, rfl, fun q r hq => by omega, bb6, ho4', ho6'⟩
    case round =>
      obtain ⟨j, hj, rfl, hno, bbr, hoF, hoB⟩ := hrel
      have HNO := Lib.hid hno; clear hno
      clear bb6 ho4' ho6' m06
      have LR := Lib.hid hR.len
      by_cases hlt : j < mn
      · obtain ⟨r, hr⟩ := at_some lk.rules j (by have := LR.out; omega)
        have hRr := hR.call bbr
        obtain ⟨b, o, rfl, _, hc⟩ := hRr.pos (by omega)
        obtain ⟨cs, he, hcc⟩ := hc j r hr
        have hM : ∀ cs0 : List Value, cs0 = cs → Calls Try.prog 40 #[.pointer (some ⟨Bw, 0, none⟩), .pointer (some ⟨Bm, 0, none⟩), .agg cs0.toArray, .slice A4 n4 c4, .slice A6 n6 c6] (wr.alloc (.cells cs0.toArray 48)) fun e w' => e = .returned (.bool (fits run r fore back)) ∧ Below (wr.alloc (.cells cs0.toArray 48)).heap.size (wr.alloc (.cells cs0.toArray 48)) w' := by
          rintro cs0 rfl
          have bba2 := bbr.alloc bbr.size (.cells cs0.toArray 48)
          have hoF' := hoF.alloc (.cells cs0.toArray 48)
          have hoB' := hoB.alloc (.cells cs0.toArray 48)
          have := matches_c h P hh Bw Bm RA A4 A6 rn rc n4 c4 n6 c6 run r cs0 (fore.take fo) (back.take bak) _ (cell_call h9 bba2) (hI.call bba2) (cell_call m2 bba2) (he.mono (fun b hb => Nat.lt_of_lt_of_le hb (by simp)) (kept_below ((Below.refl _ _).alloc (Nat.le_refl _) _))) hoF'.rd hoB'.rd
            (fun p hp => PF.out p (List.mem_of_mem_take hp)) (fun p hp => PB.out p (List.mem_of_mem_take hp)) (HS.out r (List.mem_of_getElem? hr)) (by omega) hoF'.cap (by have := hoB'.cap; omega) (by have := HFO.out r (List.mem_of_getElem? hr); omega)
          rw [fits_take run r fore back fo bak (HFO.out r (List.mem_of_getElem? hr)) (HBA.out r (List.mem_of_getElem? hr))] at this
          exact this
        have HM := Lib.hid hM
        have HR := Lib.hid hr
        obtain ⟨A1, n1, c1, A2, n2, c2, A3, n3, c3, A5, n5, c5, A7, n7, c7, hcs, _, r2, _, _, _, _, d2, _⟩ := he
        have L2 := Lib.hid r2.len
        subst hcs
        have g0 := hcc 0 _ rfl
        have g1 := hcc 1 _ rfl
        have g2 := hcc 2 _ rfl
        have g3 := hcc 3 _ rfl
        have g4 := hcc 4 _ rfl
        have g5 := hcc 5 _ rfl
        rw [Nat.add_zero] at g0
        have HM2 := Lib.hid (HM.out _ rfl)
        have jz : (0 : Int) ≤ (j : Int) := by omega
        have jn : (j : Int) < (mn : Int) := by omega
        clear hM HM hcc hc hr r2 d2 hRr
        cases hfit : fits run r fore back with
        | true =>
          rw [hfit] at HM2
          have hn2 : n2 ≤ n4 ∧ n4 ≤ c4 ∧ c4 ≤ 9223372036854775807 ∧ n2 = r.inn.length ∧ r.inn.length ≤ fo := by
            have q1 : r.inn.length + r.ahead.length ≤ fore.length := by
              unfold fits at hfit
              simp only [Bool.and_eq_true, decide_eq_true_eq] at hfit
              exact hfit.1.1.2
            have q2 := HFO.out r (List.mem_of_getElem? HR.out)
            have q3 := hoF.len
            rw [ic_len, natI_len, List.length_take] at q3
            have q4 := L2.out
            have q5 := hoF.cap
            omega
          obtain ⟨z1, z2, z3, z4, z5⟩ := hn2
          have y1 : (n2 : Int) ≤ (c4 : Int) := by omega
          have y2 : (0 : Int) ≤ (n2 : Int) := by omega
          have HFIT := Lib.hid hfit
          have HZ4 := Lib.hid z4
          clear hfit z4
          go_wp2_with fail
          refine HM2.out.mono ?_
          rintro e w7 ⟨rfl, hb7⟩
          have kb := (Bk.new wr 48 #[.slice A1 n1 c1, .slice A2 n2 c2, .slice A3 n3 c3, .slice A5 n5 c5, .slice A7 n7 c7, .int .i64 r.x]).below hb7 (by simp)
          have k1 := kb.cell 1
          simp only [List.getElem?_toArray, List.getElem?_cons_succ, List.getElem?_cons_zero] at k1
          have bb7 := below_call (bbr.alloc bbr.size _) hb7
          have ho7 := (hoF.alloc (.cells #[.slice A1 n1 c1, .slice A2 n2 c2, .slice A3 n3 c3, .slice A5 n5 c5, .slice A7 n7 c7, .int .i64 r.x] 48)).call hb7
          clear HM2 hb7 hoF hoB kb
          go_wp2
          go_quiet (fail)
          go_wp2
          have hans : ans = some (j, fore.take r.inn.length) := by
            rw [HANS.out, firstR_some HR.out HFIT.out HNO.out]; simp
          rw [hans]
          have hpl : (fore.take r.inn.length).length = n2 := by
            have q3 := ho7.len
            rw [ic_len, natI_len, List.length_take] at q3
            have := HZ4.out
            rw [List.length_take]; omega
          go_ret2
          refine ⟨A4, n2, by rw [hpl]; rfl, ?_, ?_, below_drewN bb7 _⟩
          · rw [hpl]
            have q := SlE.take ho7.rdS n2 z1
            have e : (natI (fore.take fo)).take n2 = natI (fore.take r.inn.length) := by
              rw [← natI_take, List.take_take, HZ4.out]
              congr 2; omega
            rw [e] at q
            exact q
          · rw [hpl]; exact ⟨Nat.le_refl _, by omega⟩
        | false =>
          rw [hfit] at HM2
          have HFIT := Lib.hid hfit
          clear hfit
          go_wp2_with fail
          refine HM2.out.mono ?_
          rintro e w7 ⟨rfl, hb7⟩
          have bb7 := below_call (bbr.alloc bbr.size _) hb7
          have ho7 := (hoF.alloc (.cells #[.slice A1 n1 c1, .slice A2 n2 c2, .slice A3 n3 c3, .slice A5 n5 c5, .slice A7 n7 c7, .int .i64 r.x] 48)).call hb7
          have ho8 := (hoB.alloc (.cells #[.slice A1 n1 c1, .slice A2 n2 c2, .slice A3 n3 c3, .slice A5 n5 c5, .slice A7 n7 c7, .int .i64 r.x] 48)).call hb7
          clear HM2 hb7 hoF hoB
          go_wp2
          go_roundw
          case rel =>
            refine ⟨j + 1, by omega, by go_num, fun q x hq hx => ?_, bb7, ho7, ho8⟩
            by_cases eq : q = j
            · subst eq; rw [HR.out] at hx; injection hx with hx; subst hx; exact HFIT.out
            · exact HNO.out q x (by omega) hx
          case measure => simp [intOf]; omega
      · go_wp2
        have hans : ans = none := by
          rw [HANS.out, firstR_none fun q x hx => HNO.out q x (by have := (List.getElem?_eq_some_iff.1 hx).1; have := LR.out; omega) hx]
        rw [hans]
        go_ret2
        exact ⟨rfl, bbr⟩

end Go.Proofs.Ytkoocipagndclaa
