/- Walk: RulesMarks. -/
import Derived.Test.YtkoocipagndclaaN6
import Derived.Test.YtkoocipagndclaaL3
import Derived.Handy
namespace Go.Proofs.Ytkoocipagndclaa
open Go.RowKit Go.Shelf

theorem nm_take {F : Fnt} {run : List Itm} {i : Nat} {x : Itm} (h : run[i]? = some x) : (run.take (i + 1)).filter (nm F) = (run.take i).filter (nm F) ++ (if isMark F x.g then [] else [x]) := by
  rw [List.take_add_one, h, Option.toList_some, List.filter_append]
  congr 1
  unfold nm
  cases hm : isMark F x.g <;> simp [hm]
theorem itc_single (x : Itm) : itc [x] = itmC x := by simp [itc]
/-- The first i items of what is left of the second row. -/
theorem mask_take {F : Fnt} : ∀ {l xs : List Itm} {i : Nat} {it x : Itm}, l[i]? = some it → xs[i]? = some x → maskL F (l.take (i + 1)) (xs.take (i + 1)) = maskL F (l.take i) (xs.take i) ++ (if isMark F it.g then [] else [x])
  | a :: l, b :: xs, 0, it, x, h1, h2 => by
    simp at h1 h2; subst h1; subst h2
    simp only [List.take_succ_cons, List.take_zero, maskL, nm]
    by_cases hm : isMark F a.g = true <;> simp [hm]
  | a :: l, b :: xs, i + 1, it, x, h1, h2 => by
    have ih := mask_take (F := F) (l := l) (xs := xs) (i := i) (it := it) (x := x) (by simpa using h1) (by simpa using h2)
    rw [List.take_succ_cons, List.take_succ_cons, List.take_succ_cons, List.take_succ_cons, maskL, maskL, ih]
    split <;> simp
  | [], _, _, _, _, h, _ => by simp at h
  | _ :: _, [], _, _, _, _, h => by simp at h
theorem keep_at {F : Fnt} : ∀ {l xs : List Itm} {i : Nat} {it x : Itm}, keepL F l xs → l[i]? = some it → xs[i]? = some x → isMark F it.g = true → x = it
  | a :: l, b :: xs, 0, it, x, h, h1, h2, hm => by
    simp at h1 h2; subst h1; subst h2
    exact h.1 (by unfold nm; simp [hm])
  | a :: l, b :: xs, i + 1, it, x, h, h1, h2, hm => keep_at (l := l) (xs := xs) (i := i) h.2 (by simpa using h1) (by simpa using h2) hm
  | [], _, _, _, _, _, h, _, _ => by simp at h
  | _ :: _, [], _, _, _, _, _, h, _ => by simp at h
set_option maxRecDepth 100000 in
set_option maxHeartbeats 4000000 in
theorem rulesMarks_walk (f : FV) (F : Fnt) (n : Int) (RA : Option Addr) (rn rc : Nat) (run : List Itm) (k : Int) (FA : Option Addr) (fn fc : Nat) (forms : List Int) (w : World) (hf : IsF w (lo w.heap.size) f F) (hI : RdI w (lo w.heap.size) RA rn run) (hd : Hd rn rc) (hF : Rd w (lo w.heap.size) FA fn forms) (hfd : Hd fn fc) :
    Calls Try.prog 12 #[.agg (askC f n RA rn rc k FA fn fc)] w (TP w) := by
  have hrnM : rn ≤ 9223372036854775807 := Nat.le_trans hd.1 hd.2
  have hfnM : fn ≤ 9223372036854775807 := Nat.le_trans hfd.1 hfd.2
  have hs_0 := AS.new (n := n) (k := k) (rc := rc) (fc := fc) hf hI hF
  unfold askC at hs_0 ⊢
  go_enter Try.func12, Try.ntmps12
  go_upto_region 1 with fail
  generalize w.alloc (.cells #[.int .i64 f.u0, .slice f.ga f.gn f.gc, .slice f.ca f.cn f.cc, .slice f.la f.ln f.lc, .slice f.a4 f.n4 f.c4, .slice f.a5 f.n5 f.c5, .slice f.a6 f.n6 f.c6, .slice f.a7 f.n7 f.c7, .slice f.a8 f.n8 f.c8, .int .i64 n, .slice RA rn rc, .int .i64 k, .slice FA fn fc] 34) = w0 at hs_0 ⊢
  generalize hbf : w.heap.size = bf at hs_0 ⊢
  clear hf hI hF
  have HC := Lib.hid (big11_c f F RA rn rc run w0 hs_0.hf hs_0.hI hrnM)
  unfold FV.cells at HC
  obtain ⟨y0, y1, y2, y3, y4, y5, y6, y7, y8, y9, y10, y11, y12⟩ := hs_0.cells
  go_wp2_with fail
  refine HC.out.mono ?_
  rintro e w1 ⟨rfl, b1⟩
  clear HC y0 y1 y2 y3 y4 y5 y6 y7 y8 y9 y10 y11 y12
  have hs_1 := hs_0.call b1
  clear hs_0 b1
  cases hbig : big11 F run with
  | true =>
    obtain ⟨y0, y1, y2, y3, y4, y5, y6, y7, y8, y9, y10, y11, y12⟩ := hs_1.cells
    go_wp2_with fail
    refine (ruled_c _).mono ?_
    rintro e w9 ⟨rfl, b9⟩
    go_wp2
    go_ret
    exact ⟨rfl, below_call hs_1.bw b9⟩
  | false =>
    have hsm := small11 hbig
    have hrn : rn ≤ 300 := by have := hs_1.hI.len; have := hsm.run; omega
    have HSM := Lib.hid hsm
    have HRL := Lib.hid hs_1.hI.len
    clear hbig hsm
    by_cases hneg : n < 0
    · have tn : decide (n < 0) = true := by simp; omega
      obtain ⟨y0, y1, y2, y3, y4, y5, y6, y7, y8, y9, y10, y11, y12⟩ := hs_1.cells
      go_wp2_with fail
      refine (ruled_c _).mono ?_
      rintro e w9 ⟨rfl, b9⟩
      go_wp2
      go_ret
      exact ⟨rfl, below_call hs_1.bw b9⟩
    · have tn : decide (n < 0) = false := by simp; omega
      by_cases hbg : (f.ln : Int) ≤ n
      · have tb : decide ((f.ln : Int) ≤ n) = true := by simp; omega
        obtain ⟨y0, y1, y2, y3, y4, y5, y6, y7, y8, y9, y10, y11, y12⟩ := hs_1.cells
        go_wp2_with fail
        refine (ruled_c _).mono ?_
        rintro e w9 ⟨rfl, b9⟩
        go_wp2
        go_ret
        exact ⟨rfl, below_call hs_1.bw b9⟩
      · have tb : decide ((f.ln : Int) ≤ n) = false := by simp; omega
        obtain ⟨q, rfl⟩ : ∃ q : Nat, n = (q : Int) := ⟨n.toNat, by omega⟩
        have tb' : decide (f.ln ≤ q) = false := by simp; omega
        have qz : (0 : Int) ≤ (q : Int) := by omega
        have ql : (q : Int) < (f.ln : Int) := by omega
        obtain ⟨lk, hlk⟩ := at_some F.lks q (by have := hs_1.hf.2.1.len; omega)
        obtain ⟨lb, lo', hla, _, hc⟩ := hs_1.hf.2.1.pos (by omega)
        obtain ⟨cs, ⟨LA, ln, lc, rfl, hRR, hRd⟩, hcc⟩ := hc q lk hlk
        have l0 := hcc 0 _ rfl
        have l1 := hcc 1 _ rfl
        have l2 := hcc 2 _ rfl
        rw [Nat.add_zero] at l0
        have HLK := Lib.hid (lkAt_nat hlk)
        have HLKM := Lib.hid (List.mem_of_getElem? hlk)
        have HLA := Lib.hid hla
        have HRLN := Lib.hid hRR.len
        clear hc hcc hla hlk hneg hbg
        obtain ⟨y0, y1, y2, y3, y4, y5, y6, y7, y8, y9, y10, y11, y12⟩ := hs_1.cells
        rw [HLA.out] at y3
        go_upto_region 4 with fail
        have kl := Bk.new w1 44 #[.int .i64 lk.kind, .bool lk.ign, .slice LA ln lc]
        have b2 : Below w1.heap.size w1 (w1.alloc (.cells #[.int .i64 lk.kind, .bool lk.ign, .slice LA ln lc] 44)) := (Below.refl _ _).alloc (Nat.le_refl _) _
        clear y0 y1 y2 y3 y4 y5 y6 y7 y8 y9 y10 y11 y12 l0 l1 l2
        have hs2 := hs_1.call b2
        have hRR2 := hRR.call b2
        generalize w1.alloc (.cells #[.int .i64 lk.kind, .bool lk.ign, .slice LA ln lc] 44) = w2 at *
        generalize w1.heap.size = gl at *
        clear hs_1 hRR b2
        have hln12 : ln ≤ 12 := by have := HSM.out.rl lk HLKM.out; have := HRLN.out; omega
        have z0 : w2.cell? ⟨gl, 0, none⟩ = some (.int .i64 lk.kind) := kl.cell 0
        have z1 : w2.cell? ⟨gl, 1, none⟩ = some (.bool lk.ign) := kl.cell 1
        have z2 : w2.cell? ⟨gl, 2, none⟩ = some (.slice LA ln lc) := kl.cell 2
        by_cases h1 : lk.kind = 1
        · have HKD := Lib.hid (show lk.kind = 1 ∨ lk.kind = 5 from .inl h1)
          have t1 : (lk.kind != 1) = false := by simp [h1]
          clear h1
          cases hig : lk.ign with
          | false =>
            rw [hig] at z1
            clear hig
            go_wp2_with fail
            refine (ruled_c _).mono ?_
            rintro e w9 ⟨rfl, b9⟩
            go_wp2
            go_ret
            exact ⟨rfl, below_call hs2.bw b9⟩
          | true =>
            have HIG := Lib.hid hig
            rw [hig] at z1 kl
            clear hig
            go_upto_region 6 with fail
            clear z0 z1 z2
            go_wp2
            go_loopw [4] (fun s4 wr => ∃ i : Nat, s4 = .int .i64 (i : Int) ∧ i ≤ ln ∧ (∀ (j : Nat) (r : Rul), j < i → lk.rules[j]? = some r → r.inn.length ≤ 1) ∧ Below w2.heap.size w2 wr) (fun s _ => ln - (intOf s).toNat)
            case atStart => exact ⟨0, rfl, by omega, (fun j r hj => by omega), Below.refl _ _⟩
            case round =>
              obtain ⟨i, rfl, hi, hfl, hbr⟩ := hrel
              have hsr := hs2.call hbr
              have hRr := hRR2.call hbr
              have klr := kl.call hbr
              have HFL := Lib.hid hfl
              have HBR := Lib.hid hbr
              clear hfl hbr
              have z2 : wr.cell? ⟨gl, 2, none⟩ = some (.slice LA ln lc) := klr.cell 2
              by_cases hil : i < ln
              · have iz : (0 : Int) ≤ (i : Int) := by omega
                have il : (i : Int) < (ln : Int) := by omega
                obtain ⟨r, hr⟩ := at_some lk.rules i (by have := HRLN.out; omega)
                obtain ⟨rb, ro, A1, n1, c1, A2, n2, c2, A3, n3, c3, A4, n4, c4, A5, n5, c5, hLA, r0, r1, r2, r3, r4, r5, h1, h2, h3, h4, h5, d1, d2, d3, d4, d5⟩ := rule_at hRr hr
                subst hLA
                have HH := Lib.hid h2.len
                have HR := Lib.hid hr
                clear h1 h2 h3 h4 h5 d1 d2 d3 d4 d5 r0 r2 r3 r4 r5 hr
                by_cases e2 : n2 ≤ 1
                · have t2 : decide ((1 : Int) < (n2 : Int)) = false := by simp; omega
                  have t2' : decide (1 < n2) = false := by simp; omega
                  have HE2 := Lib.hid e2
                  clear e2
                  go_wp2
                  go_roundw
                  case rel => exact ⟨i + 1, by go_num, by omega, (fun j x hj hx => (Nat.lt_succ_iff_lt_or_eq.1 hj).elim (fun h => HFL.out j x h hx) (fun h => by subst h; rw [HR.out] at hx; injection hx with hx; subst hx; rw [HH.out]; exact HE2.out)), HBR.out⟩
                  case measure => simp [intOf]; omega
                · have t2 : decide ((1 : Int) < (n2 : Int)) = true := by simp; omega
                  have t2' : decide (1 < n2) = true := by simp; omega
                  go_wp2_with fail
                  refine (ruled_c _).mono ?_
                  rintro e w9 ⟨rfl, b9⟩
                  go_wp2
                  go_ret
                  exact ⟨rfl, below_call hsr.bw b9⟩
              · have il : decide ((i : Int) < (ln : Int)) = false := by simp; omega
                have il' : decide (i < ln) = false := by simp; omega
                have HALL := Lib.hid (show ∀ r ∈ lk.rules, r.inn.length ≤ 1 from fun r hr => by
                  obtain ⟨j, hj⟩ := List.mem_iff_getElem?.1 hr
                  exact HFL.out j r (by have := (List.getElem?_eq_some_iff.1 hj).1; have := HRLN.out; omega) hj)
                obtain ⟨LW1, LW2, LW3⟩ := marks_law (w := w64) (F := F) (n := (q : Int)) (lk := lk) (run := run) (forms := forms) HLK.out HKD.out HIG.out HALL.out
                have HLW := Lib.hid (And.intro LW1 (And.intro LW2 LW3))
                clear LW1 LW2 LW3 HFL HBR hi hs2 hRR2 hRr klr kl
                have hs3 := hsr
                clear hsr
                generalize wr = w3 at *
                obtain ⟨y0, y1, y2, y3, y4, y5, y6, y7, y8, y9, y10, y11, y12⟩ := hs3.cells
                go_upto_region 12 with fail
                clear y0 y1 y2 y3 y4 y5 y6 y7 y8 y9 y10 y11 y12 il il' hil z2
                have bE : Below w3.heap.size w3 (w3.alloc (.cells #[] 51)) := (Below.refl _ _).alloc (Nat.le_refl _) _
                have oE := own_empty w3 51 6
                go_wp2
                go_loopw [5, 6] (fun s5 s6 wr => ∃ (i m c : Nat) (A : Option Addr), s5 = .slice A m c ∧ s6 = .int .i64 (i : Int) ∧ i ≤ rn ∧ m ≤ i ∧ Ow 51 6 wr w3.heap.size A m c (itc ((run.take i).filter (nm F))) ∧ Below w3.heap.size w3 wr) (fun _ s _ => rn - (intOf s).toNat)
                case atStart => exact ⟨0, 0, 0, _, rfl, rfl, by omega, by omega, oE, bE⟩
                case round =>
                  obtain ⟨i, m, c, A, rfl, rfl, hi, hm, ho, hbr⟩ := hrel
                  clear bE oE
                  have hsr := hs3.call hbr
                  by_cases hil : i < rn
                  · have iz : (0 : Int) ≤ (i : Int) := by omega
                    have il : (i : Int) < (rn : Int) := by omega
                    obtain ⟨it, hit⟩ := at_some run i (by have := HRL.out; omega)
                    obtain ⟨b, o, hRA, _, _⟩ := hsr.hI.pos (by omega)
                    subst hRA
                    have HIT := Lib.hid hit
                    have HBR := Lib.hid hbr
                    have HO := Lib.hid ho
                    clear hit hbr ho
                    have HS := Lib.hid fun (W : World) (bW : Below wr.heap.size wr W) => (show (W.cell? ⟨bf, 0, none⟩ = some (.int .i64 f.u0) ∧ W.cell? ⟨bf, 1, none⟩ = some (.slice f.ga f.gn f.gc) ∧ W.cell? ⟨bf, 2, none⟩ = some (.slice f.ca f.cn f.cc) ∧ W.cell? ⟨bf, 3, none⟩ = some (.slice f.la f.ln f.lc) ∧ W.cell? ⟨bf, 4, none⟩ = some (.slice f.a4 f.n4 f.c4) ∧ W.cell? ⟨bf, 5, none⟩ = some (.slice f.a5 f.n5 f.c5) ∧ W.cell? ⟨bf, 6, none⟩ = some (.slice f.a6 f.n6 f.c6) ∧ W.cell? ⟨bf, 7, none⟩ = some (.slice f.a7 f.n7 f.c7) ∧ W.cell? ⟨bf, 8, none⟩ = some (.slice f.a8 f.n8 f.c8) ∧ W.cell? ⟨bf, 9, none⟩ = some (.int .i64 (q : Int)) ∧ W.cell? ⟨bf, 10, none⟩ = some (.slice (some ⟨b, o, none⟩) rn rc) ∧ W.cell? ⟨bf, 11, none⟩ = some (.int .i64 k) ∧ W.cell? ⟨bf, 12, none⟩ = some (.slice FA fn fc)) ∧ W.cell? ⟨b, o + i * 6, none⟩ = some (.int .i64 it.g) from (And.intro (hsr.call bW).cells (item_at (hsr.call bW).hI HIT.out).1))
                    have bb := Below.refl wr.heap.size wr
                    obtain ⟨y0, y1, y2, y3, y4, y5, y6, y7, y8, y9, y10, y11, y12⟩ := hsr.cells
                    go_wp2
                    clear y0 y1 y2 y3 y4 y5 y6 y7 y8 y9 y10 y11 y12
                    refine wp_region_held_drew (S := fun w' => (w'.cell? ⟨bf, 0, none⟩ = some (.int .i64 f.u0) ∧ w'.cell? ⟨bf, 1, none⟩ = some (.slice f.ga f.gn f.gc) ∧ w'.cell? ⟨bf, 2, none⟩ = some (.slice f.ca f.cn f.cc) ∧ w'.cell? ⟨bf, 3, none⟩ = some (.slice f.la f.ln f.lc) ∧ w'.cell? ⟨bf, 4, none⟩ = some (.slice f.a4 f.n4 f.c4) ∧ w'.cell? ⟨bf, 5, none⟩ = some (.slice f.a5 f.n5 f.c5) ∧ w'.cell? ⟨bf, 6, none⟩ = some (.slice f.a6 f.n6 f.c6) ∧ w'.cell? ⟨bf, 7, none⟩ = some (.slice f.a7 f.n7 f.c7) ∧ w'.cell? ⟨bf, 8, none⟩ = some (.slice f.a8 f.n8 f.c8) ∧ w'.cell? ⟨bf, 9, none⟩ = some (.int .i64 (q : Int)) ∧ w'.cell? ⟨bf, 10, none⟩ = some (.slice (some ⟨b, o, none⟩) rn rc) ∧ w'.cell? ⟨bf, 11, none⟩ = some (.int .i64 k) ∧ w'.cell? ⟨bf, 12, none⟩ = some (.slice FA fn fc)) ∧ w'.cell? ⟨b, o + i * 6, none⟩ = some (.int .i64 it.g)) (by kernel_rfl) ?_ (fun hHeld => ?_)
                    · exact HS.out _ (below_drewN bb 1)
                    replace bb := below_drewN bb 1
                    change Below _ _ wr.drew at bb
                    generalize hw0 : wr.drew = W0 at hHeld bb ⊢
                    clear hw0
                    refine wpAnyH_take (i := 0) (v := ?_) (by simp only [List.getElem?_toArray]; rfl) (by kernel_rfl) (by kernel_rfl) (by kernel_rfl) (by exact fun _ _ _ h => h) (Or.inl ⟨by rfl, ?_⟩) (by assumption) ?_
                    rotate_left 1
                    · intro w hSw; (try dsimp only at hSw); go_simp; try with_reducible rfl
                    try conv => arg 8; simp only [Act.put, List.setIfInBounds_toArray, List.set_cons_zero, List.set_cons_succ]
                    refine wpAnyH_take (i := 1) (v := ?_) (by simp only [List.getElem?_toArray]; rfl) (by kernel_rfl) (by kernel_rfl) (by kernel_rfl) (by exact fun _ _ _ h => h) (Or.inl ⟨by rfl, ?_⟩) (by assumption) ?_
                    rotate_left 1
                    · intro w hSw; (try dsimp only at hSw); go_simp; try with_reducible rfl
                    try conv => arg 8; simp only [Act.put, List.setIfInBounds_toArray, List.set_cons_zero, List.set_cons_succ]
                    refine wpAnyH_take (i := 2) (v := ?_) (by simp only [List.getElem?_toArray]; rfl) (by kernel_rfl) (by kernel_rfl) (by kernel_rfl) (by exact fun _ _ _ h => h) (Or.inl ⟨by rfl, ?_⟩) (by assumption) ?_
                    rotate_left 1
                    · intro w hSw; (try dsimp only at hSw); go_simp; try with_reducible rfl
                    try conv => arg 8; simp only [Act.put, List.setIfInBounds_toArray, List.set_cons_zero, List.set_cons_succ]
                    refine wpAnyH_take (i := 3) (v := ?_) (by simp only [List.getElem?_toArray]; rfl) (by kernel_rfl) (by kernel_rfl) (by kernel_rfl) (by exact fun _ _ _ h => h) (Or.inl ⟨by rfl, ?_⟩) (by assumption) ?_
                    rotate_left 1
                    · intro w hSw; (try dsimp only at hSw); go_simp; try with_reducible rfl
                    try conv => arg 8; simp only [Act.put, List.setIfInBounds_toArray, List.set_cons_zero, List.set_cons_succ]
                    refine wpAnyH_take (i := 4) (v := ?_) (by simp only [List.getElem?_toArray]; rfl) (by kernel_rfl) (by kernel_rfl) (by kernel_rfl) (by exact fun _ _ _ h => h) (Or.inl ⟨by rfl, ?_⟩) (by assumption) ?_
                    rotate_left 1
                    · intro w hSw; (try dsimp only at hSw); go_simp; try with_reducible rfl
                    try conv => arg 8; simp only [Act.put, List.setIfInBounds_toArray, List.set_cons_zero, List.set_cons_succ]
                    refine wpAnyH_take (i := 5) (v := ?_) (by simp only [List.getElem?_toArray]; rfl) (by kernel_rfl) (by kernel_rfl) (by kernel_rfl) (by exact fun _ _ _ h => h) (Or.inl ⟨by rfl, ?_⟩) (by assumption) ?_
                    rotate_left 1
                    · intro w hSw; (try dsimp only at hSw); go_simp; try with_reducible rfl
                    try conv => arg 8; simp only [Act.put, List.setIfInBounds_toArray, List.set_cons_zero, List.set_cons_succ]
                    refine wpAnyH_take (i := 6) (v := ?_) (by simp only [List.getElem?_toArray]; rfl) (by kernel_rfl) (by kernel_rfl) (by kernel_rfl) (by exact fun _ _ _ h => h) (Or.inl ⟨by rfl, ?_⟩) (by assumption) ?_
                    rotate_left 1
                    · intro w hSw; (try dsimp only at hSw); go_simp; try with_reducible rfl
                    try conv => arg 8; simp only [Act.put, List.setIfInBounds_toArray, List.set_cons_zero, List.set_cons_succ]
                    refine wpAnyH_take (i := 7) (v := ?_) (by simp only [List.getElem?_toArray]; rfl) (by kernel_rfl) (by kernel_rfl) (by kernel_rfl) (by exact fun _ _ _ h => h) (Or.inl ⟨by rfl, ?_⟩) (by assumption) ?_
                    rotate_left 1
                    · intro w hSw; (try dsimp only at hSw); go_simp; try with_reducible rfl
                    try conv => arg 8; simp only [Act.put, List.setIfInBounds_toArray, List.set_cons_zero, List.set_cons_succ]
                    refine wpAnyH_ready (rs := [8]) (by kernel_rfl) (by simp) ?_
                    refine AllReadyH.cons (by simp only [List.getElem?_toArray]; rfl) (fun K hK => ?_) AllReadyH.nil
                    refine wanted_pos (by kernel_rfl) ?_
                    go_simp
                    clear hHeld
                    go_at_call 22
                    (with_reducible refine (lmark_c f F it.g W0 (hsr.call bb).hf).mono ?_)
                    rintro e W1 ⟨rfl, bn⟩
                    go_wp2_with fail
                    refine hK.out _ _ ?_ (fun hHeld => ?_)
                    · exact HS.out _ (bb.trans (bn.mono bb.size))
                    clear hK K
                    try conv => arg 8; simp only [Act.put, List.setIfInBounds_toArray, List.set_cons_zero, List.set_cons_succ]
                    replace bb := bb.trans (bn.mono bb.size)
                    clear bn
                    refine wpAnyH_take (i := 9) (v := ?_) (by simp only [List.getElem?_toArray]; rfl) (by kernel_rfl) (by kernel_rfl) (by kernel_rfl) (by exact fun _ _ _ h => h) (Or.inl ⟨by rfl, ?_⟩) (by assumption) ?_
                    rotate_left 1
                    · intro w hSw; (try dsimp only at hSw); go_simp; try with_reducible rfl
                    try conv => arg 8; simp only [Act.put, List.setIfInBounds_toArray, List.set_cons_zero, List.set_cons_succ]
                    refine wpAnyH_done (by kernel_rfl) ?_ _
                    have hs4 := hsr.call bb
                    have ho4 := HO.out.below bb (Nat.le_refl _)
                    have HB4 := Lib.hid (HBR.out.trans (bb.mono HBR.out.size))
                    clear hHeld bb HS HO HBR hsr
                    obtain ⟨g0, g1, g2, g3, g4, g5⟩ := item_at hs4.hI HIT.out
                    obtain ⟨y0, y1, y2, y3, y4, y5, y6, y7, y8, y9, y10, y11, y12⟩ := hs4.cells
                    cases hmk : isMark F it.g with
                    | true =>
                      have HMK := Lib.hid hmk
                      clear hmk g0 g1 g2 g3 g4 g5
                      go_wp2
                      go_roundw
                      case rel => exact ⟨i + 1, m, c, A, rfl, by go_num, by omega, by omega, by rw [nm_take HIT.out, HMK.out, if_pos rfl, List.append_nil]; exact ho4, HB4.out⟩
                      case measure => simp [intOf]; omega
                    | false =>
                      have HMK := Lib.hid hmk
                      clear hmk
                      have HBS := Lib.hid HB4.out.size
                      go_wp2_with (at_builtin; refine appP elt_item rfl (.tmp 85) (.tmp 91) rfl (W1.alloc (.cells #[.int .i64 it.g, .int .i64 it.c, .int .i64 it.f, .int .i64 it.a, .int .i64 it.x, .int .i64 it.y] 51)) w3.heap.size _ _ _ _ _ _ _ (itc [it]) (by rfl) (by rfl) (ho4.alloc _) rfl (by rw [itc_single]; exact news_new _ _ _) (itc_one _) (by omega) (by have := HBS.out; simp; omega) ?_; intro A2 c2 w2 ho2 hg hb2 hat)
                      go_roundw
                      case rel => exact ⟨i + 1, m + 1, c2, A2, rfl, by go_num, by omega, by omega, by rw [nm_take HIT.out, HMK.out, if_neg (by simp), itc_app]; exact ho2, (HB4.out.alloc HB4.out.size _).trans hb2⟩
                      case measure => simp [intOf]; omega
                  · have il : decide ((i : Int) < (rn : Int)) = false := by simp; omega
                    have il' : decide (i < rn) = false := by simp; omega
                    rw [List.take_of_length_le (by have := HRL.out; omega)] at ho
                    generalize run.filter (nm F) = bare at *
                    have hbr5 := ho.rdI
                    have HM := Lib.hid (show m ≤ 300 by omega)
                    clear ho hbr hs3 hi hm
                    have HC := Lib.hid (apply_all f F (q : Int) RA rn rc run FA fn fc forms wr hsr.hf hsr.hI hsr.hF hfnM (by have := HRL.out; omega) HSM.out.sm HSM.out.o)
                    unfold FV.cells at HC
                    obtain ⟨y0, y1, y2, y3, y4, y5, y6, y7, y8, y9, y10, y11, y12⟩ := hsr.cells
                    go_wp2_with fail
                    refine HC.out.mono ?_
                    rintro e w4 ⟨A4, n4, c4, rfl, o4, b4⟩
                    clear HC y0 y1 y2 y3 y4 y5 y6 y7 y8 y9 y10 y11 y12
                    have hs4 := hsr.call b4
                    have qb4 := hbr5.call b4
                    have qx4 := o4.rdI
                    have hn4 : rn = n4 := by have h1 := qx4.len; have h2 := HLW.out.1; have := HRL.out; omega
                    subst hn4
                    generalize hxs : applyL w64 F (q : Int) run forms = xs at *
                    have HXL := Lib.hid qx4.len
                    clear hsr hbr5 o4 b4 hxs
                    obtain ⟨y0, y1, y2, y3, y4, y5, y6, y7, y8, y9, y10, y11, y12⟩ := hs4.cells
                    go_upto_region 21 with fail
                    clear y0 y1 y2 y3 y4 y5 y6 y7 y8 y9 y10 y11 y12 il il' hil
                    have bE : Below w4.heap.size w4 (w4.alloc (.cells #[] 51)) := (Below.refl _ _).alloc (Nat.le_refl _) _
                    have oE := own_empty w4 51 6
                    go_wp2
                    go_loopw [8, 9] (fun s8 s9 wr => ∃ (i u v : Nat) (B : Option Addr), s8 = .slice B u v ∧ s9 = .int .i64 (i : Int) ∧ i ≤ rn ∧ u ≤ i ∧ Ow 51 6 wr w4.heap.size B u v (itc (maskL F (run.take i) (xs.take i))) ∧ Below w4.heap.size w4 wr) (fun _ s _ => rn - (intOf s).toNat)
                    case atStart => exact ⟨0, 0, 0, _, rfl, rfl, by omega, by omega, oE, bE⟩
                    case round =>
                      obtain ⟨i, u, v, B, rfl, rfl, hi, hm, ho, hbr⟩ := hrel
                      clear bE oE
                      have hsr := hs4.call hbr
                      have qxr := qx4.call hbr
                      by_cases hil : i < rn
                      · have iz : (0 : Int) ≤ (i : Int) := by omega
                        have il : (i : Int) < (rn : Int) := by omega
                        obtain ⟨it, hit⟩ := at_some run i (by have := HRL.out; omega)
                        obtain ⟨x, hx⟩ := at_some xs i (by have := HXL.out; omega)
                        obtain ⟨b, o, hRA, _, _⟩ := hsr.hI.pos (by omega)
                        subst hRA
                        obtain ⟨xb, xo, hA4, _, _⟩ := qxr.pos (by omega)
                        subst hA4
                        have HIT := Lib.hid hit
                        have HX := Lib.hid hx
                        have HBR := Lib.hid hbr
                        have HO := Lib.hid ho
                        clear hit hx hbr ho
                        have HS := Lib.hid fun (W : World) (bW : Below wr.heap.size wr W) => (show (W.cell? ⟨bf, 0, none⟩ = some (.int .i64 f.u0) ∧ W.cell? ⟨bf, 1, none⟩ = some (.slice f.ga f.gn f.gc) ∧ W.cell? ⟨bf, 2, none⟩ = some (.slice f.ca f.cn f.cc) ∧ W.cell? ⟨bf, 3, none⟩ = some (.slice f.la f.ln f.lc) ∧ W.cell? ⟨bf, 4, none⟩ = some (.slice f.a4 f.n4 f.c4) ∧ W.cell? ⟨bf, 5, none⟩ = some (.slice f.a5 f.n5 f.c5) ∧ W.cell? ⟨bf, 6, none⟩ = some (.slice f.a6 f.n6 f.c6) ∧ W.cell? ⟨bf, 7, none⟩ = some (.slice f.a7 f.n7 f.c7) ∧ W.cell? ⟨bf, 8, none⟩ = some (.slice f.a8 f.n8 f.c8) ∧ W.cell? ⟨bf, 9, none⟩ = some (.int .i64 (q : Int)) ∧ W.cell? ⟨bf, 10, none⟩ = some (.slice (some ⟨b, o, none⟩) rn rc) ∧ W.cell? ⟨bf, 11, none⟩ = some (.int .i64 k) ∧ W.cell? ⟨bf, 12, none⟩ = some (.slice FA fn fc)) ∧ W.cell? ⟨b, o + i * 6, none⟩ = some (.int .i64 it.g) from (And.intro (hsr.call bW).cells (item_at (hsr.call bW).hI HIT.out).1))
                        have bb := Below.refl wr.heap.size wr
                        obtain ⟨y0, y1, y2, y3, y4, y5, y6, y7, y8, y9, y10, y11, y12⟩ := hsr.cells
                        go_wp2
                        clear y0 y1 y2 y3 y4 y5 y6 y7 y8 y9 y10 y11 y12
                        refine wp_region_held_drew (S := fun w' => (w'.cell? ⟨bf, 0, none⟩ = some (.int .i64 f.u0) ∧ w'.cell? ⟨bf, 1, none⟩ = some (.slice f.ga f.gn f.gc) ∧ w'.cell? ⟨bf, 2, none⟩ = some (.slice f.ca f.cn f.cc) ∧ w'.cell? ⟨bf, 3, none⟩ = some (.slice f.la f.ln f.lc) ∧ w'.cell? ⟨bf, 4, none⟩ = some (.slice f.a4 f.n4 f.c4) ∧ w'.cell? ⟨bf, 5, none⟩ = some (.slice f.a5 f.n5 f.c5) ∧ w'.cell? ⟨bf, 6, none⟩ = some (.slice f.a6 f.n6 f.c6) ∧ w'.cell? ⟨bf, 7, none⟩ = some (.slice f.a7 f.n7 f.c7) ∧ w'.cell? ⟨bf, 8, none⟩ = some (.slice f.a8 f.n8 f.c8) ∧ w'.cell? ⟨bf, 9, none⟩ = some (.int .i64 (q : Int)) ∧ w'.cell? ⟨bf, 10, none⟩ = some (.slice (some ⟨b, o, none⟩) rn rc) ∧ w'.cell? ⟨bf, 11, none⟩ = some (.int .i64 k) ∧ w'.cell? ⟨bf, 12, none⟩ = some (.slice FA fn fc)) ∧ w'.cell? ⟨b, o + i * 6, none⟩ = some (.int .i64 it.g)) (by kernel_rfl) ?_ (fun hHeld => ?_)
                        · exact HS.out _ (below_drewN bb 1)
                        replace bb := below_drewN bb 1
                        change Below _ _ wr.drew at bb
                        generalize hw0 : wr.drew = W0 at hHeld bb ⊢
                        clear hw0
                        refine wpAnyH_take (i := 0) (v := ?_) (by simp only [List.getElem?_toArray]; rfl) (by kernel_rfl) (by kernel_rfl) (by kernel_rfl) (by exact fun _ _ _ h => h) (Or.inl ⟨by rfl, ?_⟩) (by assumption) ?_
                        rotate_left 1
                        · intro w hSw; (try dsimp only at hSw); go_simp; try with_reducible rfl
                        try conv => arg 8; simp only [Act.put, List.setIfInBounds_toArray, List.set_cons_zero, List.set_cons_succ]
                        refine wpAnyH_take (i := 1) (v := ?_) (by simp only [List.getElem?_toArray]; rfl) (by kernel_rfl) (by kernel_rfl) (by kernel_rfl) (by exact fun _ _ _ h => h) (Or.inl ⟨by rfl, ?_⟩) (by assumption) ?_
                        rotate_left 1
                        · intro w hSw; (try dsimp only at hSw); go_simp; try with_reducible rfl
                        try conv => arg 8; simp only [Act.put, List.setIfInBounds_toArray, List.set_cons_zero, List.set_cons_succ]
                        refine wpAnyH_take (i := 2) (v := ?_) (by simp only [List.getElem?_toArray]; rfl) (by kernel_rfl) (by kernel_rfl) (by kernel_rfl) (by exact fun _ _ _ h => h) (Or.inl ⟨by rfl, ?_⟩) (by assumption) ?_
                        rotate_left 1
                        · intro w hSw; (try dsimp only at hSw); go_simp; try with_reducible rfl
                        try conv => arg 8; simp only [Act.put, List.setIfInBounds_toArray, List.set_cons_zero, List.set_cons_succ]
                        refine wpAnyH_take (i := 3) (v := ?_) (by simp only [List.getElem?_toArray]; rfl) (by kernel_rfl) (by kernel_rfl) (by kernel_rfl) (by exact fun _ _ _ h => h) (Or.inl ⟨by rfl, ?_⟩) (by assumption) ?_
                        rotate_left 1
                        · intro w hSw; (try dsimp only at hSw); go_simp; try with_reducible rfl
                        try conv => arg 8; simp only [Act.put, List.setIfInBounds_toArray, List.set_cons_zero, List.set_cons_succ]
                        refine wpAnyH_take (i := 4) (v := ?_) (by simp only [List.getElem?_toArray]; rfl) (by kernel_rfl) (by kernel_rfl) (by kernel_rfl) (by exact fun _ _ _ h => h) (Or.inl ⟨by rfl, ?_⟩) (by assumption) ?_
                        rotate_left 1
                        · intro w hSw; (try dsimp only at hSw); go_simp; try with_reducible rfl
                        try conv => arg 8; simp only [Act.put, List.setIfInBounds_toArray, List.set_cons_zero, List.set_cons_succ]
                        refine wpAnyH_take (i := 5) (v := ?_) (by simp only [List.getElem?_toArray]; rfl) (by kernel_rfl) (by kernel_rfl) (by kernel_rfl) (by exact fun _ _ _ h => h) (Or.inl ⟨by rfl, ?_⟩) (by assumption) ?_
                        rotate_left 1
                        · intro w hSw; (try dsimp only at hSw); go_simp; try with_reducible rfl
                        try conv => arg 8; simp only [Act.put, List.setIfInBounds_toArray, List.set_cons_zero, List.set_cons_succ]
                        refine wpAnyH_take (i := 6) (v := ?_) (by simp only [List.getElem?_toArray]; rfl) (by kernel_rfl) (by kernel_rfl) (by kernel_rfl) (by exact fun _ _ _ h => h) (Or.inl ⟨by rfl, ?_⟩) (by assumption) ?_
                        rotate_left 1
                        · intro w hSw; (try dsimp only at hSw); go_simp; try with_reducible rfl
                        try conv => arg 8; simp only [Act.put, List.setIfInBounds_toArray, List.set_cons_zero, List.set_cons_succ]
                        refine wpAnyH_take (i := 7) (v := ?_) (by simp only [List.getElem?_toArray]; rfl) (by kernel_rfl) (by kernel_rfl) (by kernel_rfl) (by exact fun _ _ _ h => h) (Or.inl ⟨by rfl, ?_⟩) (by assumption) ?_
                        rotate_left 1
                        · intro w hSw; (try dsimp only at hSw); go_simp; try with_reducible rfl
                        try conv => arg 8; simp only [Act.put, List.setIfInBounds_toArray, List.set_cons_zero, List.set_cons_succ]
                        refine wpAnyH_ready (rs := [8]) (by kernel_rfl) (by simp) ?_
                        refine AllReadyH.cons (by simp only [List.getElem?_toArray]; rfl) (fun K hK => ?_) AllReadyH.nil
                        refine wanted_pos (by kernel_rfl) ?_
                        go_simp
                        clear hHeld
                        go_at_call 22
                        (with_reducible refine (lmark_c f F it.g W0 (hsr.call bb).hf).mono ?_)
                        rintro e W1 ⟨rfl, bn⟩
                        go_wp2_with fail
                        refine hK.out _ _ ?_ (fun hHeld => ?_)
                        · exact HS.out _ (bb.trans (bn.mono bb.size))
                        clear hK K
                        try conv => arg 8; simp only [Act.put, List.setIfInBounds_toArray, List.set_cons_zero, List.set_cons_succ]
                        replace bb := bb.trans (bn.mono bb.size)
                        clear bn
                        refine wpAnyH_take (i := 9) (v := ?_) (by simp only [List.getElem?_toArray]; rfl) (by kernel_rfl) (by kernel_rfl) (by kernel_rfl) (by exact fun _ _ _ h => h) (Or.inl ⟨by rfl, ?_⟩) (by assumption) ?_
                        rotate_left 1
                        · intro w hSw; (try dsimp only at hSw); go_simp; try with_reducible rfl
                        try conv => arg 8; simp only [Act.put, List.setIfInBounds_toArray, List.set_cons_zero, List.set_cons_succ]
                        refine wpAnyH_done (by kernel_rfl) ?_ _
                        have hs5 := hsr.call bb
                        have qx5 := qxr.call bb
                        have ho5 := HO.out.below bb (Nat.le_refl _)
                        have HB5 := Lib.hid (HBR.out.trans (bb.mono HBR.out.size))
                        clear hHeld bb HS HO HBR hsr qxr
                        obtain ⟨g0, g1, g2, g3, g4, g5⟩ := item_at qx5 HX.out
                        obtain ⟨y0, y1, y2, y3, y4, y5, y6, y7, y8, y9, y10, y11, y12⟩ := hs5.cells
                        cases hmk : isMark F it.g with
                        | true =>
                          have HMK := Lib.hid hmk
                          have exi := keep_at HLW.out.2.1 HIT.out HX.out hmk
                          subst exi
                          obtain ⟨k0, k1, k2, k3, k4, k5⟩ := item_at hs5.hI HIT.out
                          clear hmk
                          have hpg := item_guard
                          have hpe := fun w0 => item_eq w0 x x
                          rw [show decide (x = x) = true by simp] at hpe
                          go_wp2
                          go_quiet (fail)
                          go_wp2
                          go_roundw
                          case rel => exact ⟨i + 1, u, v, B, rfl, by go_num, by omega, by omega, by rw [mask_take HIT.out HX.out, HMK.out, if_pos rfl, List.append_nil]; exact ho5, below_drewN HB5.out _⟩
                          case measure => simp [intOf]; omega
                        | false =>
                          have HMK := Lib.hid hmk
                          clear hmk
                          have HBS := Lib.hid HB5.out.size
                          go_wp2_with (at_builtin; refine appP elt_item rfl (.tmp 125) (.tmp 130) rfl (W1.alloc (.cells #[.int .i64 x.g, .int .i64 x.c, .int .i64 x.f, .int .i64 x.a, .int .i64 x.x, .int .i64 x.y] 51)) w4.heap.size _ _ _ _ _ _ _ (itc [x]) (by rfl) (by rfl) (ho5.alloc _) rfl (by rw [itc_single]; exact news_new _ _ _) (itc_one _) (by omega) (by have := HBS.out; simp; omega) ?_; intro A6 c6 w6 ho6 hg hb6 hat)
                          go_roundw
                          case rel => exact ⟨i + 1, u + 1, c6, A6, rfl, by go_num, by omega, by omega, by rw [mask_take HIT.out HX.out, HMK.out, if_neg (by simp), itc_app]; exact ho6, (HB5.out.alloc HB5.out.size _).trans hb6⟩
                          case measure => simp [intOf]; omega
                      · have il : decide ((i : Int) < (rn : Int)) = false := by simp; omega
                        have il' : decide (i < rn) = false := by simp; omega
                        rw [List.take_of_length_le (by have := HRL.out; omega), List.take_of_length_le (by have := HXL.out; omega), HLW.out.2.2] at ho
                        have hs8 := hsr
                        have qb8 := qb4.call hbr
                        have q8 := ho.rdI
                        have HU := Lib.hid (show u ≤ 300 by omega)
                        clear hbr ho hsr qxr hs4 qb4 qx4 hi hm
                        go_wp2_with fail
                        refine (ruled_c _).mono ?_
                        rintro e w9 ⟨rfl, b9⟩
                        have hs9 := hs8.call b9
                        have qb9 := qb8.call b9
                        have q9 := q8.call b9
                        clear hs8 qb8 q8 b9 il il' hil
                        have HC := Lib.hid (apply_all f F (q : Int) A m c bare FA fn fc forms w9 hs9.hf qb9 hs9.hF hfnM (by have := qb9.len; have := HM.out; omega) HSM.out.sm HSM.out.o)
                        unfold FV.cells at HC
                        obtain ⟨y0, y1, y2, y3, y4, y5, y6, y7, y8, y9, y10, y11, y12⟩ := hs9.cells
                        go_wp2_with fail
                        refine HC.out.mono ?_
                        rintro e w10 ⟨A9, n9, c9, rfl, o9, b10⟩
                        clear HC y0 y1 y2 y3 y4 y5 y6 y7 y8 y9 y10 y11 y12
                        have hs10 := hs9.call b10
                        have q10 := q9.call b10
                        have HN9 := Lib.hid (show n9 ≤ 500 by have h1 := o9.rdI.len; have h2 := apply_len w64 F (q : Int) bare forms; have := qb9.len; have := HM.out; omega)
                        have HCS := Lib.hid (same_c B A9 u n9 v c9 _ _ w10 q10 o9.rdI (by have := HU.out; omega) (by have := HN9.out; omega))
                        rw [show decide (applyL w64 F (q : Int) bare forms = applyL w64 F (q : Int) bare forms) = true by simp] at HCS
                        clear q9 q10 o9 b10 hs9 qb9
                        go_wp2_with fail
                        refine HCS.out.mono ?_
                        rintro e w11 ⟨rfl, b11⟩
                        go_wp2
                        go_ret
                        exact ⟨rfl, below_call hs10.bw b11⟩
        · have t1 : (lk.kind != 1) = true := by simp [h1]
          by_cases h5 : lk.kind = 5
          · have HKD := Lib.hid (show lk.kind = 1 ∨ lk.kind = 5 from .inr h5)
            have t5 : (lk.kind != 5) = false := by simp [h5]
            clear h1 h5
            cases hig : lk.ign with
            | false =>
              rw [hig] at z1
              clear hig
              go_wp2_with fail
              refine (ruled_c _).mono ?_
              rintro e w9 ⟨rfl, b9⟩
              go_wp2
              go_ret
              exact ⟨rfl, below_call hs2.bw b9⟩
            | true =>
              have HIG := Lib.hid hig
              rw [hig] at z1 kl
              clear hig
              go_upto_region 6 with fail
              clear z0 z1 z2
              go_wp2
              go_loopw [4] (fun s4 wr => ∃ i : Nat, s4 = .int .i64 (i : Int) ∧ i ≤ ln ∧ (∀ (j : Nat) (r : Rul), j < i → lk.rules[j]? = some r → r.inn.length ≤ 1) ∧ Below w2.heap.size w2 wr) (fun s _ => ln - (intOf s).toNat)
              case atStart => exact ⟨0, rfl, by omega, (fun j r hj => by omega), Below.refl _ _⟩
              case round =>
                obtain ⟨i, rfl, hi, hfl, hbr⟩ := hrel
                have hsr := hs2.call hbr
                have hRr := hRR2.call hbr
                have klr := kl.call hbr
                have HFL := Lib.hid hfl
                have HBR := Lib.hid hbr
                clear hfl hbr
                have z2 : wr.cell? ⟨gl, 2, none⟩ = some (.slice LA ln lc) := klr.cell 2
                by_cases hil : i < ln
                · have iz : (0 : Int) ≤ (i : Int) := by omega
                  have il : (i : Int) < (ln : Int) := by omega
                  obtain ⟨r, hr⟩ := at_some lk.rules i (by have := HRLN.out; omega)
                  obtain ⟨rb, ro, A1, n1, c1, A2, n2, c2, A3, n3, c3, A4, n4, c4, A5, n5, c5, hLA, r0, r1, r2, r3, r4, r5, h1, h2, h3, h4, h5, d1, d2, d3, d4, d5⟩ := rule_at hRr hr
                  subst hLA
                  have HH := Lib.hid h2.len
                  have HR := Lib.hid hr
                  clear h1 h2 h3 h4 h5 d1 d2 d3 d4 d5 r0 r2 r3 r4 r5 hr
                  by_cases e2 : n2 ≤ 1
                  · have t2 : decide ((1 : Int) < (n2 : Int)) = false := by simp; omega
                    have t2' : decide (1 < n2) = false := by simp; omega
                    have HE2 := Lib.hid e2
                    clear e2
                    go_wp2
                    go_roundw
                    case rel => exact ⟨i + 1, by go_num, by omega, (fun j x hj hx => (Nat.lt_succ_iff_lt_or_eq.1 hj).elim (fun h => HFL.out j x h hx) (fun h => by subst h; rw [HR.out] at hx; injection hx with hx; subst hx; rw [HH.out]; exact HE2.out)), HBR.out⟩
                    case measure => simp [intOf]; omega
                  · have t2 : decide ((1 : Int) < (n2 : Int)) = true := by simp; omega
                    have t2' : decide (1 < n2) = true := by simp; omega
                    go_wp2_with fail
                    refine (ruled_c _).mono ?_
                    rintro e w9 ⟨rfl, b9⟩
                    go_wp2
                    go_ret
                    exact ⟨rfl, below_call hsr.bw b9⟩
                · have il : decide ((i : Int) < (ln : Int)) = false := by simp; omega
                  have il' : decide (i < ln) = false := by simp; omega
                  have HALL := Lib.hid (show ∀ r ∈ lk.rules, r.inn.length ≤ 1 from fun r hr => by
                    obtain ⟨j, hj⟩ := List.mem_iff_getElem?.1 hr
                    exact HFL.out j r (by have := (List.getElem?_eq_some_iff.1 hj).1; have := HRLN.out; omega) hj)
                  obtain ⟨LW1, LW2, LW3⟩ := marks_law (w := w64) (F := F) (n := (q : Int)) (lk := lk) (run := run) (forms := forms) HLK.out HKD.out HIG.out HALL.out
                  have HLW := Lib.hid (And.intro LW1 (And.intro LW2 LW3))
                  clear LW1 LW2 LW3 HFL HBR hi hs2 hRR2 hRr klr kl
                  have hs3 := hsr
                  clear hsr
                  generalize wr = w3 at *
                  obtain ⟨y0, y1, y2, y3, y4, y5, y6, y7, y8, y9, y10, y11, y12⟩ := hs3.cells
                  go_upto_region 12 with fail
                  clear y0 y1 y2 y3 y4 y5 y6 y7 y8 y9 y10 y11 y12 il il' hil z2
                  have bE : Below w3.heap.size w3 (w3.alloc (.cells #[] 51)) := (Below.refl _ _).alloc (Nat.le_refl _) _
                  have oE := own_empty w3 51 6
                  go_wp2
                  go_loopw [5, 6] (fun s5 s6 wr => ∃ (i m c : Nat) (A : Option Addr), s5 = .slice A m c ∧ s6 = .int .i64 (i : Int) ∧ i ≤ rn ∧ m ≤ i ∧ Ow 51 6 wr w3.heap.size A m c (itc ((run.take i).filter (nm F))) ∧ Below w3.heap.size w3 wr) (fun _ s _ => rn - (intOf s).toNat)
                  case atStart => exact ⟨0, 0, 0, _, rfl, rfl, by omega, by omega, oE, bE⟩
                  case round =>
                    obtain ⟨i, m, c, A, rfl, rfl, hi, hm, ho, hbr⟩ := hrel
                    clear bE oE
                    have hsr := hs3.call hbr
                    by_cases hil : i < rn
                    · have iz : (0 : Int) ≤ (i : Int) := by omega
                      have il : (i : Int) < (rn : Int) := by omega
                      obtain ⟨it, hit⟩ := at_some run i (by have := HRL.out; omega)
                      obtain ⟨b, o, hRA, _, _⟩ := hsr.hI.pos (by omega)
                      subst hRA
                      have HIT := Lib.hid hit
                      have HBR := Lib.hid hbr
                      have HO := Lib.hid ho
                      clear hit hbr ho
                      have HS := Lib.hid fun (W : World) (bW : Below wr.heap.size wr W) => (show (W.cell? ⟨bf, 0, none⟩ = some (.int .i64 f.u0) ∧ W.cell? ⟨bf, 1, none⟩ = some (.slice f.ga f.gn f.gc) ∧ W.cell? ⟨bf, 2, none⟩ = some (.slice f.ca f.cn f.cc) ∧ W.cell? ⟨bf, 3, none⟩ = some (.slice f.la f.ln f.lc) ∧ W.cell? ⟨bf, 4, none⟩ = some (.slice f.a4 f.n4 f.c4) ∧ W.cell? ⟨bf, 5, none⟩ = some (.slice f.a5 f.n5 f.c5) ∧ W.cell? ⟨bf, 6, none⟩ = some (.slice f.a6 f.n6 f.c6) ∧ W.cell? ⟨bf, 7, none⟩ = some (.slice f.a7 f.n7 f.c7) ∧ W.cell? ⟨bf, 8, none⟩ = some (.slice f.a8 f.n8 f.c8) ∧ W.cell? ⟨bf, 9, none⟩ = some (.int .i64 (q : Int)) ∧ W.cell? ⟨bf, 10, none⟩ = some (.slice (some ⟨b, o, none⟩) rn rc) ∧ W.cell? ⟨bf, 11, none⟩ = some (.int .i64 k) ∧ W.cell? ⟨bf, 12, none⟩ = some (.slice FA fn fc)) ∧ W.cell? ⟨b, o + i * 6, none⟩ = some (.int .i64 it.g) from (And.intro (hsr.call bW).cells (item_at (hsr.call bW).hI HIT.out).1))
                      have bb := Below.refl wr.heap.size wr
                      obtain ⟨y0, y1, y2, y3, y4, y5, y6, y7, y8, y9, y10, y11, y12⟩ := hsr.cells
                      go_wp2
                      clear y0 y1 y2 y3 y4 y5 y6 y7 y8 y9 y10 y11 y12
                      refine wp_region_held_drew (S := fun w' => (w'.cell? ⟨bf, 0, none⟩ = some (.int .i64 f.u0) ∧ w'.cell? ⟨bf, 1, none⟩ = some (.slice f.ga f.gn f.gc) ∧ w'.cell? ⟨bf, 2, none⟩ = some (.slice f.ca f.cn f.cc) ∧ w'.cell? ⟨bf, 3, none⟩ = some (.slice f.la f.ln f.lc) ∧ w'.cell? ⟨bf, 4, none⟩ = some (.slice f.a4 f.n4 f.c4) ∧ w'.cell? ⟨bf, 5, none⟩ = some (.slice f.a5 f.n5 f.c5) ∧ w'.cell? ⟨bf, 6, none⟩ = some (.slice f.a6 f.n6 f.c6) ∧ w'.cell? ⟨bf, 7, none⟩ = some (.slice f.a7 f.n7 f.c7) ∧ w'.cell? ⟨bf, 8, none⟩ = some (.slice f.a8 f.n8 f.c8) ∧ w'.cell? ⟨bf, 9, none⟩ = some (.int .i64 (q : Int)) ∧ w'.cell? ⟨bf, 10, none⟩ = some (.slice (some ⟨b, o, none⟩) rn rc) ∧ w'.cell? ⟨bf, 11, none⟩ = some (.int .i64 k) ∧ w'.cell? ⟨bf, 12, none⟩ = some (.slice FA fn fc)) ∧ w'.cell? ⟨b, o + i * 6, none⟩ = some (.int .i64 it.g)) (by kernel_rfl) ?_ (fun hHeld => ?_)
                      · exact HS.out _ (below_drewN bb 1)
                      replace bb := below_drewN bb 1
                      change Below _ _ wr.drew at bb
                      generalize hw0 : wr.drew = W0 at hHeld bb ⊢
                      clear hw0
                      refine wpAnyH_take (i := 0) (v := ?_) (by simp only [List.getElem?_toArray]; rfl) (by kernel_rfl) (by kernel_rfl) (by kernel_rfl) (by exact fun _ _ _ h => h) (Or.inl ⟨by rfl, ?_⟩) (by assumption) ?_
                      rotate_left 1
                      · intro w hSw; (try dsimp only at hSw); go_simp; try with_reducible rfl
                      try conv => arg 8; simp only [Act.put, List.setIfInBounds_toArray, List.set_cons_zero, List.set_cons_succ]
                      refine wpAnyH_take (i := 1) (v := ?_) (by simp only [List.getElem?_toArray]; rfl) (by kernel_rfl) (by kernel_rfl) (by kernel_rfl) (by exact fun _ _ _ h => h) (Or.inl ⟨by rfl, ?_⟩) (by assumption) ?_
                      rotate_left 1
                      · intro w hSw; (try dsimp only at hSw); go_simp; try with_reducible rfl
                      try conv => arg 8; simp only [Act.put, List.setIfInBounds_toArray, List.set_cons_zero, List.set_cons_succ]
                      refine wpAnyH_take (i := 2) (v := ?_) (by simp only [List.getElem?_toArray]; rfl) (by kernel_rfl) (by kernel_rfl) (by kernel_rfl) (by exact fun _ _ _ h => h) (Or.inl ⟨by rfl, ?_⟩) (by assumption) ?_
                      rotate_left 1
                      · intro w hSw; (try dsimp only at hSw); go_simp; try with_reducible rfl
                      try conv => arg 8; simp only [Act.put, List.setIfInBounds_toArray, List.set_cons_zero, List.set_cons_succ]
                      refine wpAnyH_take (i := 3) (v := ?_) (by simp only [List.getElem?_toArray]; rfl) (by kernel_rfl) (by kernel_rfl) (by kernel_rfl) (by exact fun _ _ _ h => h) (Or.inl ⟨by rfl, ?_⟩) (by assumption) ?_
                      rotate_left 1
                      · intro w hSw; (try dsimp only at hSw); go_simp; try with_reducible rfl
                      try conv => arg 8; simp only [Act.put, List.setIfInBounds_toArray, List.set_cons_zero, List.set_cons_succ]
                      refine wpAnyH_take (i := 4) (v := ?_) (by simp only [List.getElem?_toArray]; rfl) (by kernel_rfl) (by kernel_rfl) (by kernel_rfl) (by exact fun _ _ _ h => h) (Or.inl ⟨by rfl, ?_⟩) (by assumption) ?_
                      rotate_left 1
                      · intro w hSw; (try dsimp only at hSw); go_simp; try with_reducible rfl
                      try conv => arg 8; simp only [Act.put, List.setIfInBounds_toArray, List.set_cons_zero, List.set_cons_succ]
                      refine wpAnyH_take (i := 5) (v := ?_) (by simp only [List.getElem?_toArray]; rfl) (by kernel_rfl) (by kernel_rfl) (by kernel_rfl) (by exact fun _ _ _ h => h) (Or.inl ⟨by rfl, ?_⟩) (by assumption) ?_
                      rotate_left 1
                      · intro w hSw; (try dsimp only at hSw); go_simp; try with_reducible rfl
                      try conv => arg 8; simp only [Act.put, List.setIfInBounds_toArray, List.set_cons_zero, List.set_cons_succ]
                      refine wpAnyH_take (i := 6) (v := ?_) (by simp only [List.getElem?_toArray]; rfl) (by kernel_rfl) (by kernel_rfl) (by kernel_rfl) (by exact fun _ _ _ h => h) (Or.inl ⟨by rfl, ?_⟩) (by assumption) ?_
                      rotate_left 1
                      · intro w hSw; (try dsimp only at hSw); go_simp; try with_reducible rfl
                      try conv => arg 8; simp only [Act.put, List.setIfInBounds_toArray, List.set_cons_zero, List.set_cons_succ]
                      refine wpAnyH_take (i := 7) (v := ?_) (by simp only [List.getElem?_toArray]; rfl) (by kernel_rfl) (by kernel_rfl) (by kernel_rfl) (by exact fun _ _ _ h => h) (Or.inl ⟨by rfl, ?_⟩) (by assumption) ?_
                      rotate_left 1
                      · intro w hSw; (try dsimp only at hSw); go_simp; try with_reducible rfl
                      try conv => arg 8; simp only [Act.put, List.setIfInBounds_toArray, List.set_cons_zero, List.set_cons_succ]
                      refine wpAnyH_ready (rs := [8]) (by kernel_rfl) (by simp) ?_
                      refine AllReadyH.cons (by simp only [List.getElem?_toArray]; rfl) (fun K hK => ?_) AllReadyH.nil
                      refine wanted_pos (by kernel_rfl) ?_
                      go_simp
                      clear hHeld
                      go_at_call 22
                      (with_reducible refine (lmark_c f F it.g W0 (hsr.call bb).hf).mono ?_)
                      rintro e W1 ⟨rfl, bn⟩
                      go_wp2_with fail
                      refine hK.out _ _ ?_ (fun hHeld => ?_)
                      · exact HS.out _ (bb.trans (bn.mono bb.size))
                      clear hK K
                      try conv => arg 8; simp only [Act.put, List.setIfInBounds_toArray, List.set_cons_zero, List.set_cons_succ]
                      replace bb := bb.trans (bn.mono bb.size)
                      clear bn
                      refine wpAnyH_take (i := 9) (v := ?_) (by simp only [List.getElem?_toArray]; rfl) (by kernel_rfl) (by kernel_rfl) (by kernel_rfl) (by exact fun _ _ _ h => h) (Or.inl ⟨by rfl, ?_⟩) (by assumption) ?_
                      rotate_left 1
                      · intro w hSw; (try dsimp only at hSw); go_simp; try with_reducible rfl
                      try conv => arg 8; simp only [Act.put, List.setIfInBounds_toArray, List.set_cons_zero, List.set_cons_succ]
                      refine wpAnyH_done (by kernel_rfl) ?_ _
                      have hs4 := hsr.call bb
                      have ho4 := HO.out.below bb (Nat.le_refl _)
                      have HB4 := Lib.hid (HBR.out.trans (bb.mono HBR.out.size))
                      clear hHeld bb HS HO HBR hsr
                      obtain ⟨g0, g1, g2, g3, g4, g5⟩ := item_at hs4.hI HIT.out
                      obtain ⟨y0, y1, y2, y3, y4, y5, y6, y7, y8, y9, y10, y11, y12⟩ := hs4.cells
                      cases hmk : isMark F it.g with
                      | true =>
                        have HMK := Lib.hid hmk
                        clear hmk g0 g1 g2 g3 g4 g5
                        go_wp2
                        go_roundw
                        case rel => exact ⟨i + 1, m, c, A, rfl, by go_num, by omega, by omega, by rw [nm_take HIT.out, HMK.out, if_pos rfl, List.append_nil]; exact ho4, HB4.out⟩
                        case measure => simp [intOf]; omega
                      | false =>
                        have HMK := Lib.hid hmk
                        clear hmk
                        have HBS := Lib.hid HB4.out.size
                        go_wp2_with (at_builtin; refine appP elt_item rfl (.tmp 85) (.tmp 91) rfl (W1.alloc (.cells #[.int .i64 it.g, .int .i64 it.c, .int .i64 it.f, .int .i64 it.a, .int .i64 it.x, .int .i64 it.y] 51)) w3.heap.size _ _ _ _ _ _ _ (itc [it]) (by rfl) (by rfl) (ho4.alloc _) rfl (by rw [itc_single]; exact news_new _ _ _) (itc_one _) (by omega) (by have := HBS.out; simp; omega) ?_; intro A2 c2 w2 ho2 hg hb2 hat)
                        go_roundw
                        case rel => exact ⟨i + 1, m + 1, c2, A2, rfl, by go_num, by omega, by omega, by rw [nm_take HIT.out, HMK.out, if_neg (by simp), itc_app]; exact ho2, (HB4.out.alloc HB4.out.size _).trans hb2⟩
                        case measure => simp [intOf]; omega
                    · have il : decide ((i : Int) < (rn : Int)) = false := by simp; omega
                      have il' : decide (i < rn) = false := by simp; omega
                      rw [List.take_of_length_le (by have := HRL.out; omega)] at ho
                      generalize run.filter (nm F) = bare at *
                      have hbr5 := ho.rdI
                      have HM := Lib.hid (show m ≤ 300 by omega)
                      clear ho hbr hs3 hi hm
                      have HC := Lib.hid (apply_all f F (q : Int) RA rn rc run FA fn fc forms wr hsr.hf hsr.hI hsr.hF hfnM (by have := HRL.out; omega) HSM.out.sm HSM.out.o)
                      unfold FV.cells at HC
                      obtain ⟨y0, y1, y2, y3, y4, y5, y6, y7, y8, y9, y10, y11, y12⟩ := hsr.cells
                      go_wp2_with fail
                      refine HC.out.mono ?_
                      rintro e w4 ⟨A4, n4, c4, rfl, o4, b4⟩
                      clear HC y0 y1 y2 y3 y4 y5 y6 y7 y8 y9 y10 y11 y12
                      have hs4 := hsr.call b4
                      have qb4 := hbr5.call b4
                      have qx4 := o4.rdI
                      have hn4 : rn = n4 := by have h1 := qx4.len; have h2 := HLW.out.1; have := HRL.out; omega
                      subst hn4
                      generalize hxs : applyL w64 F (q : Int) run forms = xs at *
                      have HXL := Lib.hid qx4.len
                      clear hsr hbr5 o4 b4 hxs
                      obtain ⟨y0, y1, y2, y3, y4, y5, y6, y7, y8, y9, y10, y11, y12⟩ := hs4.cells
                      go_upto_region 21 with fail
                      clear y0 y1 y2 y3 y4 y5 y6 y7 y8 y9 y10 y11 y12 il il' hil
                      have bE : Below w4.heap.size w4 (w4.alloc (.cells #[] 51)) := (Below.refl _ _).alloc (Nat.le_refl _) _
                      have oE := own_empty w4 51 6
                      go_wp2
                      go_loopw [8, 9] (fun s8 s9 wr => ∃ (i u v : Nat) (B : Option Addr), s8 = .slice B u v ∧ s9 = .int .i64 (i : Int) ∧ i ≤ rn ∧ u ≤ i ∧ Ow 51 6 wr w4.heap.size B u v (itc (maskL F (run.take i) (xs.take i))) ∧ Below w4.heap.size w4 wr) (fun _ s _ => rn - (intOf s).toNat)
                      case atStart => exact ⟨0, 0, 0, _, rfl, rfl, by omega, by omega, oE, bE⟩
                      case round =>
                        obtain ⟨i, u, v, B, rfl, rfl, hi, hm, ho, hbr⟩ := hrel
                        clear bE oE
                        have hsr := hs4.call hbr
                        have qxr := qx4.call hbr
                        by_cases hil : i < rn
                        · have iz : (0 : Int) ≤ (i : Int) := by omega
                          have il : (i : Int) < (rn : Int) := by omega
                          obtain ⟨it, hit⟩ := at_some run i (by have := HRL.out; omega)
                          obtain ⟨x, hx⟩ := at_some xs i (by have := HXL.out; omega)
                          obtain ⟨b, o, hRA, _, _⟩ := hsr.hI.pos (by omega)
                          subst hRA
                          obtain ⟨xb, xo, hA4, _, _⟩ := qxr.pos (by omega)
                          subst hA4
                          have HIT := Lib.hid hit
                          have HX := Lib.hid hx
                          have HBR := Lib.hid hbr
                          have HO := Lib.hid ho
                          clear hit hx hbr ho
                          have HS := Lib.hid fun (W : World) (bW : Below wr.heap.size wr W) => (show (W.cell? ⟨bf, 0, none⟩ = some (.int .i64 f.u0) ∧ W.cell? ⟨bf, 1, none⟩ = some (.slice f.ga f.gn f.gc) ∧ W.cell? ⟨bf, 2, none⟩ = some (.slice f.ca f.cn f.cc) ∧ W.cell? ⟨bf, 3, none⟩ = some (.slice f.la f.ln f.lc) ∧ W.cell? ⟨bf, 4, none⟩ = some (.slice f.a4 f.n4 f.c4) ∧ W.cell? ⟨bf, 5, none⟩ = some (.slice f.a5 f.n5 f.c5) ∧ W.cell? ⟨bf, 6, none⟩ = some (.slice f.a6 f.n6 f.c6) ∧ W.cell? ⟨bf, 7, none⟩ = some (.slice f.a7 f.n7 f.c7) ∧ W.cell? ⟨bf, 8, none⟩ = some (.slice f.a8 f.n8 f.c8) ∧ W.cell? ⟨bf, 9, none⟩ = some (.int .i64 (q : Int)) ∧ W.cell? ⟨bf, 10, none⟩ = some (.slice (some ⟨b, o, none⟩) rn rc) ∧ W.cell? ⟨bf, 11, none⟩ = some (.int .i64 k) ∧ W.cell? ⟨bf, 12, none⟩ = some (.slice FA fn fc)) ∧ W.cell? ⟨b, o + i * 6, none⟩ = some (.int .i64 it.g) from (And.intro (hsr.call bW).cells (item_at (hsr.call bW).hI HIT.out).1))
                          have bb := Below.refl wr.heap.size wr
                          obtain ⟨y0, y1, y2, y3, y4, y5, y6, y7, y8, y9, y10, y11, y12⟩ := hsr.cells
                          go_wp2
                          clear y0 y1 y2 y3 y4 y5 y6 y7 y8 y9 y10 y11 y12
                          refine wp_region_held_drew (S := fun w' => (w'.cell? ⟨bf, 0, none⟩ = some (.int .i64 f.u0) ∧ w'.cell? ⟨bf, 1, none⟩ = some (.slice f.ga f.gn f.gc) ∧ w'.cell? ⟨bf, 2, none⟩ = some (.slice f.ca f.cn f.cc) ∧ w'.cell? ⟨bf, 3, none⟩ = some (.slice f.la f.ln f.lc) ∧ w'.cell? ⟨bf, 4, none⟩ = some (.slice f.a4 f.n4 f.c4) ∧ w'.cell? ⟨bf, 5, none⟩ = some (.slice f.a5 f.n5 f.c5) ∧ w'.cell? ⟨bf, 6, none⟩ = some (.slice f.a6 f.n6 f.c6) ∧ w'.cell? ⟨bf, 7, none⟩ = some (.slice f.a7 f.n7 f.c7) ∧ w'.cell? ⟨bf, 8, none⟩ = some (.slice f.a8 f.n8 f.c8) ∧ w'.cell? ⟨bf, 9, none⟩ = some (.int .i64 (q : Int)) ∧ w'.cell? ⟨bf, 10, none⟩ = some (.slice (some ⟨b, o, none⟩) rn rc) ∧ w'.cell? ⟨bf, 11, none⟩ = some (.int .i64 k) ∧ w'.cell? ⟨bf, 12, none⟩ = some (.slice FA fn fc)) ∧ w'.cell? ⟨b, o + i * 6, none⟩ = some (.int .i64 it.g)) (by kernel_rfl) ?_ (fun hHeld => ?_)
                          · exact HS.out _ (below_drewN bb 1)
                          replace bb := below_drewN bb 1
                          change Below _ _ wr.drew at bb
                          generalize hw0 : wr.drew = W0 at hHeld bb ⊢
                          clear hw0
                          refine wpAnyH_take (i := 0) (v := ?_) (by simp only [List.getElem?_toArray]; rfl) (by kernel_rfl) (by kernel_rfl) (by kernel_rfl) (by exact fun _ _ _ h => h) (Or.inl ⟨by rfl, ?_⟩) (by assumption) ?_
                          rotate_left 1
                          · intro w hSw; (try dsimp only at hSw); go_simp; try with_reducible rfl
                          try conv => arg 8; simp only [Act.put, List.setIfInBounds_toArray, List.set_cons_zero, List.set_cons_succ]
                          refine wpAnyH_take (i := 1) (v := ?_) (by simp only [List.getElem?_toArray]; rfl) (by kernel_rfl) (by kernel_rfl) (by kernel_rfl) (by exact fun _ _ _ h => h) (Or.inl ⟨by rfl, ?_⟩) (by assumption) ?_
                          rotate_left 1
                          · intro w hSw; (try dsimp only at hSw); go_simp; try with_reducible rfl
                          try conv => arg 8; simp only [Act.put, List.setIfInBounds_toArray, List.set_cons_zero, List.set_cons_succ]
                          refine wpAnyH_take (i := 2) (v := ?_) (by simp only [List.getElem?_toArray]; rfl) (by kernel_rfl) (by kernel_rfl) (by kernel_rfl) (by exact fun _ _ _ h => h) (Or.inl ⟨by rfl, ?_⟩) (by assumption) ?_
                          rotate_left 1
                          · intro w hSw; (try dsimp only at hSw); go_simp; try with_reducible rfl
                          try conv => arg 8; simp only [Act.put, List.setIfInBounds_toArray, List.set_cons_zero, List.set_cons_succ]
                          refine wpAnyH_take (i := 3) (v := ?_) (by simp only [List.getElem?_toArray]; rfl) (by kernel_rfl) (by kernel_rfl) (by kernel_rfl) (by exact fun _ _ _ h => h) (Or.inl ⟨by rfl, ?_⟩) (by assumption) ?_
                          rotate_left 1
                          · intro w hSw; (try dsimp only at hSw); go_simp; try with_reducible rfl
                          try conv => arg 8; simp only [Act.put, List.setIfInBounds_toArray, List.set_cons_zero, List.set_cons_succ]
                          refine wpAnyH_take (i := 4) (v := ?_) (by simp only [List.getElem?_toArray]; rfl) (by kernel_rfl) (by kernel_rfl) (by kernel_rfl) (by exact fun _ _ _ h => h) (Or.inl ⟨by rfl, ?_⟩) (by assumption) ?_
                          rotate_left 1
                          · intro w hSw; (try dsimp only at hSw); go_simp; try with_reducible rfl
                          try conv => arg 8; simp only [Act.put, List.setIfInBounds_toArray, List.set_cons_zero, List.set_cons_succ]
                          refine wpAnyH_take (i := 5) (v := ?_) (by simp only [List.getElem?_toArray]; rfl) (by kernel_rfl) (by kernel_rfl) (by kernel_rfl) (by exact fun _ _ _ h => h) (Or.inl ⟨by rfl, ?_⟩) (by assumption) ?_
                          rotate_left 1
                          · intro w hSw; (try dsimp only at hSw); go_simp; try with_reducible rfl
                          try conv => arg 8; simp only [Act.put, List.setIfInBounds_toArray, List.set_cons_zero, List.set_cons_succ]
                          refine wpAnyH_take (i := 6) (v := ?_) (by simp only [List.getElem?_toArray]; rfl) (by kernel_rfl) (by kernel_rfl) (by kernel_rfl) (by exact fun _ _ _ h => h) (Or.inl ⟨by rfl, ?_⟩) (by assumption) ?_
                          rotate_left 1
                          · intro w hSw; (try dsimp only at hSw); go_simp; try with_reducible rfl
                          try conv => arg 8; simp only [Act.put, List.setIfInBounds_toArray, List.set_cons_zero, List.set_cons_succ]
                          refine wpAnyH_take (i := 7) (v := ?_) (by simp only [List.getElem?_toArray]; rfl) (by kernel_rfl) (by kernel_rfl) (by kernel_rfl) (by exact fun _ _ _ h => h) (Or.inl ⟨by rfl, ?_⟩) (by assumption) ?_
                          rotate_left 1
                          · intro w hSw; (try dsimp only at hSw); go_simp; try with_reducible rfl
                          try conv => arg 8; simp only [Act.put, List.setIfInBounds_toArray, List.set_cons_zero, List.set_cons_succ]
                          refine wpAnyH_ready (rs := [8]) (by kernel_rfl) (by simp) ?_
                          refine AllReadyH.cons (by simp only [List.getElem?_toArray]; rfl) (fun K hK => ?_) AllReadyH.nil
                          refine wanted_pos (by kernel_rfl) ?_
                          go_simp
                          clear hHeld
                          go_at_call 22
                          (with_reducible refine (lmark_c f F it.g W0 (hsr.call bb).hf).mono ?_)
                          rintro e W1 ⟨rfl, bn⟩
                          go_wp2_with fail
                          refine hK.out _ _ ?_ (fun hHeld => ?_)
                          · exact HS.out _ (bb.trans (bn.mono bb.size))
                          clear hK K
                          try conv => arg 8; simp only [Act.put, List.setIfInBounds_toArray, List.set_cons_zero, List.set_cons_succ]
                          replace bb := bb.trans (bn.mono bb.size)
                          clear bn
                          refine wpAnyH_take (i := 9) (v := ?_) (by simp only [List.getElem?_toArray]; rfl) (by kernel_rfl) (by kernel_rfl) (by kernel_rfl) (by exact fun _ _ _ h => h) (Or.inl ⟨by rfl, ?_⟩) (by assumption) ?_
                          rotate_left 1
                          · intro w hSw; (try dsimp only at hSw); go_simp; try with_reducible rfl
                          try conv => arg 8; simp only [Act.put, List.setIfInBounds_toArray, List.set_cons_zero, List.set_cons_succ]
                          refine wpAnyH_done (by kernel_rfl) ?_ _
                          have hs5 := hsr.call bb
                          have qx5 := qxr.call bb
                          have ho5 := HO.out.below bb (Nat.le_refl _)
                          have HB5 := Lib.hid (HBR.out.trans (bb.mono HBR.out.size))
                          clear hHeld bb HS HO HBR hsr qxr
                          obtain ⟨g0, g1, g2, g3, g4, g5⟩ := item_at qx5 HX.out
                          obtain ⟨y0, y1, y2, y3, y4, y5, y6, y7, y8, y9, y10, y11, y12⟩ := hs5.cells
                          cases hmk : isMark F it.g with
                          | true =>
                            have HMK := Lib.hid hmk
                            have exi := keep_at HLW.out.2.1 HIT.out HX.out hmk
                            subst exi
                            obtain ⟨k0, k1, k2, k3, k4, k5⟩ := item_at hs5.hI HIT.out
                            clear hmk
                            have hpg := item_guard
                            have hpe := fun w0 => item_eq w0 x x
                            rw [show decide (x = x) = true by simp] at hpe
                            go_wp2
                            go_quiet (fail)
                            go_wp2
                            go_roundw
                            case rel => exact ⟨i + 1, u, v, B, rfl, by go_num, by omega, by omega, by rw [mask_take HIT.out HX.out, HMK.out, if_pos rfl, List.append_nil]; exact ho5, below_drewN HB5.out _⟩
                            case measure => simp [intOf]; omega
                          | false =>
                            have HMK := Lib.hid hmk
                            clear hmk
                            have HBS := Lib.hid HB5.out.size
                            go_wp2_with (at_builtin; refine appP elt_item rfl (.tmp 125) (.tmp 130) rfl (W1.alloc (.cells #[.int .i64 x.g, .int .i64 x.c, .int .i64 x.f, .int .i64 x.a, .int .i64 x.x, .int .i64 x.y] 51)) w4.heap.size _ _ _ _ _ _ _ (itc [x]) (by rfl) (by rfl) (ho5.alloc _) rfl (by rw [itc_single]; exact news_new _ _ _) (itc_one _) (by omega) (by have := HBS.out; simp; omega) ?_; intro A6 c6 w6 ho6 hg hb6 hat)
                            go_roundw
                            case rel => exact ⟨i + 1, u + 1, c6, A6, rfl, by go_num, by omega, by omega, by rw [mask_take HIT.out HX.out, HMK.out, if_neg (by simp), itc_app]; exact ho6, (HB5.out.alloc HB5.out.size _).trans hb6⟩
                            case measure => simp [intOf]; omega
                        · have il : decide ((i : Int) < (rn : Int)) = false := by simp; omega
                          have il' : decide (i < rn) = false := by simp; omega
                          rw [List.take_of_length_le (by have := HRL.out; omega), List.take_of_length_le (by have := HXL.out; omega), HLW.out.2.2] at ho
                          have hs8 := hsr
                          have qb8 := qb4.call hbr
                          have q8 := ho.rdI
                          have HU := Lib.hid (show u ≤ 300 by omega)
                          clear hbr ho hsr qxr hs4 qb4 qx4 hi hm
                          go_wp2_with fail
                          refine (ruled_c _).mono ?_
                          rintro e w9 ⟨rfl, b9⟩
                          have hs9 := hs8.call b9
                          have qb9 := qb8.call b9
                          have q9 := q8.call b9
                          clear hs8 qb8 q8 b9 il il' hil
                          have HC := Lib.hid (apply_all f F (q : Int) A m c bare FA fn fc forms w9 hs9.hf qb9 hs9.hF hfnM (by have := qb9.len; have := HM.out; omega) HSM.out.sm HSM.out.o)
                          unfold FV.cells at HC
                          obtain ⟨y0, y1, y2, y3, y4, y5, y6, y7, y8, y9, y10, y11, y12⟩ := hs9.cells
                          go_wp2_with fail
                          refine HC.out.mono ?_
                          rintro e w10 ⟨A9, n9, c9, rfl, o9, b10⟩
                          clear HC y0 y1 y2 y3 y4 y5 y6 y7 y8 y9 y10 y11 y12
                          have hs10 := hs9.call b10
                          have q10 := q9.call b10
                          have HN9 := Lib.hid (show n9 ≤ 500 by have h1 := o9.rdI.len; have h2 := apply_len w64 F (q : Int) bare forms; have := qb9.len; have := HM.out; omega)
                          have HCS := Lib.hid (same_c B A9 u n9 v c9 _ _ w10 q10 o9.rdI (by have := HU.out; omega) (by have := HN9.out; omega))
                          rw [show decide (applyL w64 F (q : Int) bare forms = applyL w64 F (q : Int) bare forms) = true by simp] at HCS
                          clear q9 q10 o9 b10 hs9 qb9
                          go_wp2_with fail
                          refine HCS.out.mono ?_
                          rintro e w11 ⟨rfl, b11⟩
                          go_wp2
                          go_ret
                          exact ⟨rfl, below_call hs10.bw b11⟩
          · have t5 : (lk.kind != 5) = true := by simp [h5]
            clear h1 h5
            go_wp2_with fail
            refine (ruled_c _).mono ?_
            rintro e w9 ⟨rfl, b9⟩
            go_wp2
            go_ret
            exact ⟨rfl, below_call hs2.bw b9⟩

end Go.Proofs.Ytkoocipagndclaa
