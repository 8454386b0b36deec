/- Walks: chain. -/
import Derived.Test.YtkoocipagndclaaD7
import Derived.Test.YtkoocipagndclaaL1
namespace Go.Proofs.Ytkoocipagndclaa
open Go.RowKit Go.Shelf

theorem nth_ws {B : Nat} {W : World} {Bw Bm : Nat} {f : FV} {F : Fnt} {RA : Option Addr} {rn rc : Nat} {run : List Itm} (hs : WS B W Bw Bm f F RA rn rc run) (ign : Bool) (k : Nat) (n : Int) (hln : run.length ≤ 1000) (hn1 : -9223372036854775808 ≤ n) (hn2 : n ≤ 9223372036854775807) :
    Calls Try.prog 68 #[.pointer (some ⟨Bw, 0, none⟩), .bool ign, .int .i64 (k : Int), .int .i64 n] W fun e w' => e = .returned (.tuple #[.int .i64 (((nthL F ign run k n).getD 0 : Nat) : Int), .bool (nthL F ign run k n).isSome]) ∧ WS B w' Bw Bm f F RA rn rc run ∧ Below W.heap.size W w' :=
  (nth_c Bw f F RA rn rc run ign k n W (hs.font.up hs.hB) hs.own.rdI hs.c1 hs.c9 (by have := hs.len; omega) hn1 hn2).mono fun _ _ ⟨he, hb⟩ => ⟨he, hs.call hb, hb⟩
theorem chain_drop {α β : Type} {f : β → α → β} {l : List α} {j : Nat} {c : α} {b : β} (h : l[j]? = some c) : (l.drop j).foldl f b = (l.drop (j + 1)).foldl f (f b c) := by
  obtain ⟨hl, rfl⟩ := List.getElem?_eq_some_iff.1 h
  rw [List.drop_eq_getElem_cons hl, List.foldl_cons]
theorem step_none {w : Int → Int} {F : Fnt} {d : Nat} {lk : Lk} {k : Nat} {run : List Itm} {c : Int × Int} (h : nthL F lk.ign run k c.1 = none) : stepC w F d lk k run c = run := by unfold stepC; rw [h]
theorem step_out {w : Int → Int} {F : Fnt} {d : Nat} {lk : Lk} {k : Nat} {run : List Itm} {c : Int × Int} (h : lkAt F c.2 = none) : stepC w F d lk k run c = run := by
  unfold stepC; rw [h]; cases nthL F lk.ign run k c.1 <;> rfl
theorem step_kind {w : Int → Int} {F : Fnt} {d : Nat} {lk l : Lk} {k : Nat} {run : List Itm} {c : Int × Int} (h : lkAt F c.2 = some l) (hk : ¬ (1 ≤ l.kind ∧ l.kind ≤ 4)) : stepC w F d lk k run c = run := by
  unfold stepC; rw [h]; cases nthL F lk.ign run k c.1 with
  | none => rfl
  | some p => simp only; rw [if_neg hk]
theorem step_match {w : Int → Int} {F : Fnt} {d : Nat} {lk l : Lk} {k p : Nat} {run : List Itm} {c : Int × Int} (h0 : nthL F lk.ign run k c.1 = some p) (h : lkAt F c.2 = some l) (hk : 1 ≤ l.kind ∧ l.kind ≤ 4) :
    stepC w F d lk k run c = match matchL F l run p [] with | some (n, ps) => doL w F d l (l.rules.getD n default) ps run | none => run := by
  unfold stepC; rw [h0, h]; simp only; rw [if_pos hk]; cases matchL F l run (p : Int) [] <;> rfl
theorem lk_out {F : Fnt} {n : Int} (h : n < 0 ∨ (F.lks.length : Int) ≤ n) : lkAt F n = none := by
  unfold lkAt
  split
  · rfl
  · exact List.getElem?_eq_none (by omega)
theorem lk_nat {F : Fnt} {q : Nat} {lk : Lk} (h : F.lks[q]? = some lk) : lkAt F (q : Int) = some lk := by unfold lkAt; rw [if_neg (by omega), Int.toNat_natCast]; exact h
theorem step_len {w : Int → Int} {F : Fnt} {d : Nat} {lk : Lk} {k : Nat} {run : List Itm} {c : Int × Int} (h : run.length ≤ 1000) : (stepC w F d lk k run c).length ≤ 1000 := by
  unfold stepC
  split
  · split
    · split
      · rename_i hm
        obtain ⟨a, b, c⟩ := match_places hm
        have := doL_len (w := w) (F := F) (d := d) (lk := ‹Lk›) (r := (‹Lk›).rules.getD ‹Nat› default) a b c
        omega
      · exact h
    · exact h
  · exact h

set_option maxRecDepth 100000 in
set_option maxHeartbeats 4000000 in
theorem chain_c (B Bw Bm : Nat) (f : FV) (F : Fnt) (hF : SmF F) (lk : Lk) (dp : Nat) (hdp : dp ≤ 4) (RA : Option Addr) (rn rc : Nat) (run : List Itm) (CA : Option Addr) (cn cc : Nat) (calls : List (Int × Int)) (k : Nat) (W : World) (hs : WS B W Bw Bm f F RA rn rc run)
    (hC : RdC W (lo B) CA cn calls) (hd : Hd cn cc) (hlen : run.length ≤ 1000) (hdo : dp < 4 → ∀ (k' : Nat) (lk' : Lk), F.lks[k']? = some lk' → 1 ≤ lk'.kind → lk'.kind ≤ 4 → DoOK B Bw Bm f F k' lk' (dp + 1)) :
    Calls Try.prog 62 #[.pointer (some ⟨Bw, 0, none⟩), .bool lk.ign, .slice CA cn cc, .int .i64 (k : Int), .int .i64 (dp : Int)] W (DPost B Bw Bm f F W (if dp = 4 then run else calls.foldl (stepC w64 F (4 - (dp + 1)) lk k) run)) := by
  by_cases h4 : dp = 4
  · subst h4
    rw [if_pos rfl]
    go_enter Try.func62, Try.ntmps62
    go_wp2
    go_end0
    exact ⟨rfl, _, _, _, hs, Kept.refl _ _, Below.refl _ _⟩
  · rw [if_neg h4]
    have t4 : ((dp : Int) == 4) = false := by simp; omega
    have t4' : (dp == 4) = false := by simpa using h4
    have hwd : wrap64 ((dp : Int) + 1) = ((dp + 1 : Nat) : Int) := by unfold wrap64; omega
    obtain ⟨R, hR⟩ : ∃ R, R = calls.foldl (stepC w64 F (4 - (dp + 1)) lk k) run := ⟨_, rfl⟩
    rw [← hR]
    have HR := Lib.hid hR; have HDO := Lib.hid (hdo (by omega)); have HF := Lib.hid hF
    have HCL := Lib.hid hC.len
    have hcM : cn ≤ 9223372036854775807 := Nat.le_trans hd.1 hd.2
    have HLN := Lib.hid hlen
    have HCC := Lib.hid hC
    clear hR hdo hF hlen hC h4
    go_enter Try.func62, Try.ntmps62
    go_wp2
    go_loopw [21] (fun i wr => ∃ (j : Nat) (RA : Option Addr) (rn rc : Nat) (run : List Itm), j ≤ cn ∧ i = .int .i64 (j : Int) ∧ WS B wr Bw Bm f F RA rn rc run ∧ run.length ≤ 1000 ∧ (calls.drop j).foldl (stepC w64 F (4 - (dp + 1)) lk k) run = R ∧ Kept (SB B W) W wr ∧ Below B W wr) (fun i _ => cn - (intOf i).toNat)
    case atStart => exact ⟨0, RA, rn, rc, run, by omega, rfl, hs, HLN.out, HR.out.symm, Kept.refl _ _, Below.refl _ _⟩
    case round =>
      clear hs HLN
      obtain ⟨j, RA, rn, rc, run, hj, rfl, hs1, hln, hfo, hk1, hb1⟩ := hrel
      by_cases hlt : j < cn
      · obtain ⟨⟨c1, c2⟩, hc⟩ := at_some calls j (by have := HCL.out; omega)
        rw [chain_drop hc] at hfo
        have HFO := Lib.hid hfo
        have hCr := HCC.out.mono (fun _ h => h) (kept_below hb1)
        obtain ⟨cb, co, rfl, hcB, hcs⟩ := hCr.pos (by omega)
        obtain ⟨cs, ⟨rfl, hn1, hn2⟩, hccs⟩ := hcs j (c1, c2) hc
        have g0 := hccs 0 _ rfl
        have g1 := hccs 1 _ rfl
        rw [Nat.add_zero] at g0
        have kz : (0 : Int) ≤ (j : Int) := by omega
        have kn : (j : Int) < (cn : Int) := by omega
        have HLN := Lib.hid hln
        clear hfo hcs hccs hCr hc
        have FIN := Lib.hid fun (w' : World) (RA' : Option Addr) (rn' rc' : Nat) (run' : List Itm) (h1 : WS B w' Bw Bm f F RA' rn' rc' run') (h2 : Kept (SB B wr) wr w') (h3 : Below B wr w') (h4 : run' = stepC w64 F (4 - (dp + 1)) lk k run (c1, c2)) =>
          (show ∃ (RA : Option Addr) (rn rc : Nat) (run : List Itm), WS B w' Bw Bm f F RA rn rc run ∧ run.length ≤ 1000 ∧ (calls.drop (j + 1)).foldl (stepC w64 F (4 - (dp + 1)) lk k) run = R ∧ Kept (SB B W) W w' ∧ Below B W w' from ⟨RA', rn', rc', run', h1, by rw [h4]; exact step_len hln, by rw [h4]; exact HFO.out, keptSB_trans hk1 h2, hb1.trans h3⟩)
        clear HFO hk1 hb1
        go_upto_region 4 with fail
        have bx := Bk.new wr 55 #[.int .i64 c1, .int .i64 c2]
        have b1 : Below wr.heap.size wr (wr.alloc (.cells #[.int .i64 c1, .int .i64 c2] 55)) := (Below.refl _ _).alloc (Nat.le_refl _) _
        generalize wr.alloc (.cells #[.int .i64 c1, .int .i64 c2] 55) = w1 at bx b1 ⊢
        have hs2 := hs1.call b1
        have z0 : w1.cell? ⟨wr.heap.size, 0, none⟩ = some (.int .i64 c1) := bx.cell 0
        have z1 : w1.cell? ⟨wr.heap.size, 1, none⟩ = some (.int .i64 c2) := bx.cell 1
        have HN := Lib.hid (nth_ws hs2 lk.ign k c1 hln hn1 hn2)
        clear g0 g1
        obtain ⟨o, ho⟩ : ∃ o, o = nthL F lk.ign run k c1 := ⟨_, rfl⟩
        rw [← ho] at HN
        have HO := Lib.hid ho
        clear ho
        cases o with
        | none =>
          have HST := Lib.hid (step_none (w := w64) (d := 4 - (dp + 1)) (c := (c1, c2)) HO.out.symm)
          go_wp2_with fail
          refine HN.out.mono ?_
          rintro e w2 ⟨rfl, hs3, b2⟩
          have b12 := b1.trans (b2.mono b1.size)
          clear HN z0 bx
          go_wp2
          go_quiet (fail)
          go_wp2
          go_roundw
          case rel =>
            obtain ⟨A9, n9, c9, r9, q1, q2, q3, q4, q5⟩ := FIN.out _ _ _ _ _ (hs3.call (below_drewN (Below.refl _ _) nq)) (kept_sb hs1.hB (below_drewN b12 nq)) (below_drewN (b12.mono hs1.hB) nq) HST.out.symm
            exact ⟨j + 1, A9, n9, c9, r9, by omega, by go_num, q1, q2, q3, q4, q5⟩
          case measure => simp [intOf]; omega
        | some p =>
          go_wp2_with fail
          refine HN.out.mono ?_
          rintro e w2 ⟨rfl, hs3, b2⟩
          have b12 := b1.trans (b2.mono b1.size)
          have z1' := cell_call z1 b2
          replace bx := bx.call' b2
          clear HN z0 z1
          have c3' := hs3.c3
          by_cases hneg : c2 < 0
          · have tn : decide (c2 < 0) = true := by simp; omega
            have HST := Lib.hid (step_out (w := w64) (d := 4 - (dp + 1)) (lk := lk) (k := k) (run := run) (c := (c1, c2)) (lk_out (F := F) (.inl hneg)))
            go_wp2
            go_quiet (fail)
            go_wp2
            go_roundw
            case rel =>
              obtain ⟨A9, n9, c9, r9, q1, q2, q3, q4, q5⟩ := FIN.out _ _ _ _ _ (hs3.call (below_drewN (Below.refl _ _) nq)) (kept_sb hs1.hB (below_drewN b12 nq)) ((below_drewN b12 nq).mono hs1.hB) HST.out.symm
              exact ⟨j + 1, A9, n9, c9, r9, by omega, by go_num, q1, q2, q3, q4, q5⟩
            case measure => simp [intOf]; omega
          · have tn : decide (c2 < 0) = false := by simp; omega
            have hfl := hs3.font.2.1.len
            have hld := hs3.font.2.2.2
            have hlnM : f.ln ≤ 9223372036854775807 := Nat.le_trans hld.1 hld.2
            by_cases hbig : (f.ln : Int) ≤ c2
            · have tb : decide ((f.ln : Int) ≤ c2) = true := by simp; omega
              have HST := Lib.hid (step_out (w := w64) (d := 4 - (dp + 1)) (lk := lk) (k := k) (run := run) (c := (c1, c2)) (lk_out (F := F) (n := c2) (.inr (by omega))))
              clear hfl
              go_wp2
              go_quiet (fail)
              go_wp2
              go_roundw
              case rel =>
                obtain ⟨A9, n9, c9, r9, q1, q2, q3, q4, q5⟩ := FIN.out _ _ _ _ _ (hs3.call (below_drewN (Below.refl _ _) nq)) (kept_sb hs1.hB (below_drewN b12 nq)) ((below_drewN b12 nq).mono hs1.hB) HST.out.symm
                exact ⟨j + 1, A9, n9, c9, r9, by omega, by go_num, q1, q2, q3, q4, q5⟩
              case measure => simp [intOf]; omega
            · have tb : decide ((f.ln : Int) ≤ c2) = false := by simp; omega
              obtain ⟨q, rfl⟩ : ∃ q : Nat, c2 = (q : Int) := ⟨c2.toNat, by omega⟩
              have tb' : decide (f.ln ≤ q) = false := by simp; omega
              obtain ⟨l, hl⟩ := at_some F.lks q (by omega)
              obtain ⟨lb, lo', hla, hlb, kc, kl, _⟩ := kind_cell hs3 hl
              rw [hla] at c3'
              have HL := Lib.hid hl
              have qz : (0 : Int) ≤ (q : Int) := by omega
              clear hfl hl
              by_cases k1 : l.kind < 1
              · have tk : decide (l.kind < 1) = true := by simp; omega
                have HST := Lib.hid (step_kind (w := w64) (d := 4 - (dp + 1)) (lk := lk) (k := k) (run := run) (c := (c1, (q : Int))) (lk_nat HL.out) (by omega))
                go_wp2
                go_quiet (fail)
                replace hs3 := hs3.call (W' := w2.drewN nq) (below_drewN (Below.refl _ _) nq)
                replace b12 := below_drewN b12 nq
                replace z1' : (w2.drewN nq).cell? ⟨wr.heap.size, 1, none⟩ = some (.int .i64 (q : Int)) := z1'
                replace c3' : (w2.drewN nq).cell? ⟨Bw, 3, none⟩ = some (.slice (some ⟨lb, lo', none⟩) f.ln f.lc) := c3'
                replace kc : (w2.drewN nq).cell? ⟨lb, lo' + q * 3, none⟩ = some (.int .i64 l.kind) := kc
                replace bx : Bk (w2.drewN nq) wr.heap.size 55 #[.int .i64 c1, .int .i64 (q : Int)] := bx
                generalize w2.drewN nq = w3 at *
                go_wp2
                go_quiet (fail)
                go_wp2
                go_roundw
                case rel =>
                  obtain ⟨A9, n9, c9, r9, q1, q2, q3, q4, q5⟩ := FIN.out _ _ _ _ _ (hs3.call (below_drewN (Below.refl _ _) nq)) (kept_sb hs1.hB (below_drewN b12 nq)) ((below_drewN b12 nq).mono hs1.hB) HST.out.symm
                  exact ⟨j + 1, A9, n9, c9, r9, by omega, by go_num, q1, q2, q3, q4, q5⟩
                case measure => simp [intOf]; omega
              · have tk : decide (l.kind < 1) = false := by simp; omega
                by_cases k4 : 4 < l.kind
                · have tk4 : decide (4 < l.kind) = true := by simp; omega
                  have HST := Lib.hid (step_kind (w := w64) (d := 4 - (dp + 1)) (lk := lk) (k := k) (run := run) (c := (c1, (q : Int))) (lk_nat HL.out) (by omega))
                  go_wp2
                  go_quiet (fail)
                  replace hs3 := hs3.call (W' := w2.drewN nq) (below_drewN (Below.refl _ _) nq)
                  replace b12 := below_drewN b12 nq
                  replace z1' : (w2.drewN nq).cell? ⟨wr.heap.size, 1, none⟩ = some (.int .i64 (q : Int)) := z1'
                  replace c3' : (w2.drewN nq).cell? ⟨Bw, 3, none⟩ = some (.slice (some ⟨lb, lo', none⟩) f.ln f.lc) := c3'
                  replace kc : (w2.drewN nq).cell? ⟨lb, lo' + q * 3, none⟩ = some (.int .i64 l.kind) := kc
                  replace bx : Bk (w2.drewN nq) wr.heap.size 55 #[.int .i64 c1, .int .i64 (q : Int)] := bx
                  generalize w2.drewN nq = w3 at *
                  go_wp2
                  go_quiet (fail)
                  go_wp2
                  go_roundw
                  case rel =>
                    obtain ⟨A9, n9, c9, r9, q1, q2, q3, q4, q5⟩ := FIN.out _ _ _ _ _ (hs3.call (below_drewN (Below.refl _ _) nq)) (kept_sb hs1.hB (below_drewN b12 nq)) ((below_drewN b12 nq).mono hs1.hB) HST.out.symm
                    exact ⟨j + 1, A9, n9, c9, r9, by omega, by go_num, q1, q2, q3, q4, q5⟩
                  case measure => simp [intOf]; omega
                · have tk4 : decide (4 < l.kind) = false := by simp; omega
                  have HSM := Lib.hid (step_match (w := w64) (d := 4 - (dp + 1)) (lk := lk) (k := k) (run := run) (c := (c1, (q : Int))) HO.out.symm (lk_nat HL.out) (by omega))
                  have HDL := Lib.hid (HDO.out q l HL.out (by omega) (by omega))
                  go_wp2
                  go_quiet (fail)
                  replace hs3 := hs3.call (W' := w2.drewN nq) (below_drewN (Below.refl _ _) nq)
                  replace b12 := below_drewN b12 nq
                  replace z1' : (w2.drewN nq).cell? ⟨wr.heap.size, 1, none⟩ = some (.int .i64 (q : Int)) := z1'
                  replace c3' : (w2.drewN nq).cell? ⟨Bw, 3, none⟩ = some (.slice (some ⟨lb, lo', none⟩) f.ln f.lc) := c3'
                  replace kc : (w2.drewN nq).cell? ⟨lb, lo' + q * 3, none⟩ = some (.int .i64 l.kind) := kc
                  replace bx : Bk (w2.drewN nq) wr.heap.size 55 #[.int .i64 c1, .int .i64 (q : Int)] := bx
                  generalize w2.drewN nq = w3 at *
                  go_wp2
                  go_quiet (fail)
                  replace hs3 := hs3.call (W' := w3.drewN nq) (below_drewN (Below.refl _ _) nq)
                  replace b12 := below_drewN b12 nq
                  replace z1' : (w3.drewN nq).cell? ⟨wr.heap.size, 1, none⟩ = some (.int .i64 (q : Int)) := z1'
                  replace c3' : (w3.drewN nq).cell? ⟨Bw, 3, none⟩ = some (.slice (some ⟨lb, lo', none⟩) f.ln f.lc) := c3'
                  replace kc : (w3.drewN nq).cell? ⟨lb, lo' + q * 3, none⟩ = some (.int .i64 l.kind) := kc
                  replace bx : Bk (w3.drewN nq) wr.heap.size 55 #[.int .i64 c1, .int .i64 (q : Int)] := bx
                  generalize w3.drewN nq = w4 at *
                  go_wp2_with fail
                  refine (matcher_c B Bw Bm f F RA rn rc run q l w4 hs3 HL.out HF.out).mono ?_
                  rintro e w5 ⟨m, rfl, hmt, hs5, hk5, hb5⟩
                  have hk15 : Kept (SB B wr) wr w5 := keptSB_trans (kept_sb hs1.hB b12) hk5
                  have hb15 : Below B wr w5 := (b12.mono hs1.hB).trans hb5
                  have z1' : w5.cell? ⟨wr.heap.size, 1, none⟩ = some (.int .i64 (q : Int)) := (hk5.cell (p := ⟨wr.heap.size, 1, none⟩) (.inr ⟨_, _, _, bx, by decide, by decide⟩)).trans z1'
                  obtain ⟨sm1, sm2⟩ := HF.out l (List.mem_of_getElem? HL.out)
                  have HM := Lib.hid (match_ws B Bw Bm f F RA rn rc run l m none 0 0 [] (p : Int) w5 hs5 hmt sm2 SlE.nil (by omega) (by have := hs5.len; omega) sm1)
                  clear hs3 hk5 hb5 kc c3' sm1 sm2 hmt
                  obtain ⟨ans, hans⟩ : ∃ x, x = matchL F l run (p : Int) [] := ⟨_, rfl⟩
                  rw [← hans] at HM HSM
                  have HA := Lib.hid hans
                  clear hans
                  cases ans with
                  | none =>
                    have HST := Lib.hid HSM.out
                    go_wp2_with fail
                    refine HM.out.mono ?_
                    rintro e w6 ⟨rfl, hb6⟩
                    have hs6 := hs5.call hb6
                    have hk16 := keptSB_trans hk15 (kept_sb hs5.hB hb6)
                    have hb16 := hb15.trans (hb6.mono hs5.hB)
                    clear HM
                    go_wp2
                    go_roundw
                    case rel =>
                      obtain ⟨A9, n9, c9, r9, q1, q2, q3, q4, q5⟩ := FIN.out _ _ _ _ _ hs6 hk16 hb16 HST.out.symm
                      exact ⟨j + 1, A9, n9, c9, r9, by omega, by go_num, q1, q2, q3, q4, q5⟩
                    case measure => simp [intOf]; omega
                  | some x =>
                    obtain ⟨n, ps⟩ := x
                    obtain ⟨r, hr, _, _, hne, hhd, hpl, hps, hpw, hfit, hpe, hbg⟩ := matchL_some HA.out.symm
                    have hgr : l.rules.getD n default = r := by simp [hr]
                    have hin : r.inn ≠ [] := by
                      intro e; rw [e] at hpl; exact hne (List.eq_nil_of_length_eq_zero hpl)
                    have hst := HSM.out
                    dsimp only at hst
                    rw [hgr] at hst
                    have HST := Lib.hid hst
                    have HR := Lib.hid hr; have HIN := Lib.hid hin; have HNE := Lib.hid hne; have HPS := Lib.hid hps; have HPW := Lib.hid hpw
                    clear hst hgr hr hin hne hhd hpl hps hpw hfit hpe hbg HSM HA
                    go_wp2_with fail
                    refine HM.out.mono ?_
                    rintro e w6 ⟨PA, pc, rfl, hrd, hpd, hb6⟩
                    have hs6 := hs5.call hb6
                    have hk16 := keptSB_trans hk15 (kept_sb hs5.hB hb6)
                    have hb16 := hb15.trans (hb6.mono hs5.hB)
                    have z1' := cell_call z1' hb6
                    have hrdB : Rd w6 (SB B w6) PA ps.length (natI ps) := hrd.mono (fun _ h => .inr h) (Kept.refl _ _)
                    have HDC := Lib.hid (HDL.out w6 RA rn rc run n r PA ps.length pc ps hs6 HR.out hrdB hpd HIN.out HNE.out (fun p hp => (HPS.out p hp).2.1) HPW.out HLN.out)
                    rw [show ((dp + 1 : Nat) : Int) = (dp : Int) + 1 by omega] at HDC
                    clear HM hrd hrdB hb6 hs5 hk15 hb15
                    have n0 : decide (0 ≤ (n : Int)) = true := by simp
                    go_wp2_with fail
                    refine HDC.out.mono ?_
                    rintro e w7 ⟨rfl, RA7, rn7, rc7, hs7, hk7, hb7⟩
                    clear HDC
                    go_wp2
                    go_roundw
                    case rel =>
                      obtain ⟨A9, n9, c9, r9, q1, q2, q3, q4, q5⟩ := FIN.out _ _ _ _ _ hs7 (keptSB_trans hk16 hk7) (hb16.trans hb7) HST.out.symm
                      exact ⟨j + 1, A9, n9, c9, r9, by omega, by go_num, q1, q2, q3, q4, q5⟩
                    case measure => simp [intOf]; omega
      · have hge : decide ((j : Int) < (cn : Int)) = false := by simp; omega
        have hge2 : decide (j < cn) = false := by simp; omega
        have HFI := Lib.hid (show run = R by rw [List.drop_eq_nil_of_le (by have := HCL.out; omega)] at hfo; exact hfo)
        clear hfo
        go_wp2
        go_end0
        rw [← HFI.out]
        exact ⟨rfl, RA, rn, rc, hs1, hk1, hb1⟩

end Go.Proofs.Ytkoocipagndclaa
