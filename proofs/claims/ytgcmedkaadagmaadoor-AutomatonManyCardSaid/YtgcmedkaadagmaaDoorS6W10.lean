/- Walks: Partition. -/
import Derived.Test.YtgcmedkaadagmaaDoorS6W9
import Derived.Test.YtgcmedkaadagmaaDoorS6LawB
import Derived.WalkArith
namespace Go.Proofs.YtgcmedkaadagmaaDoor.S6
open Go.RowKit Go.Maps

theorem Rd.grown {w w' : World} {B n : Nat} {A : Option Addr} {xs : List Int} {row : Option Nat} (h : Rd w B A n xs) (hg : w.grownBy w' row) (hB : B ≤ w.heap.size) (hne : 0 < n → ∀ b o, A = some ⟨b, o, none⟩ → row ≠ some b) : Rd w' B A n xs :=
  ⟨h.1, fun hn => by
    obtain ⟨b, o, e, hb, hc⟩ := h.2 hn
    refine ⟨b, o, e, hb, fun i x hx => ?_⟩
    rw [World.cell?_of_block (hg.block b (by omega) (fun e2 => hne hn b o e e2.symm))]
    exact hc i x hx⟩
theorem grown_of_below {w w' : World} (h : Below w.heap.size w w') : w.grownBy w' none := ⟨h.os, h.tape, h.output, h.size, fun i hi _ => h.block i hi⟩

/-- A row as a set: read; it lies where the row lies, or in new memory. -/
theorem set_x (A : Option Addr) (n c : Nat) (xs : List Int) (w : World) (hA : Rd w w.heap.size A n xs) (hn : n ≤ 1000000) :
    Calls Tryd.prog 57 #[.slice A n c] w fun e w' => ∃ A' m c', e = .returned (.slice A' m c') ∧ m ≤ n ∧ Rd w' w'.heap.size A' m (ofL xs) ∧ (A' = A ∨ ∀ b o, A' = some ⟨b, o, none⟩ → w.heap.size ≤ b) ∧ Below w.heap.size w w' := by
  by_cases hs : Srt xs
  · have e := ofL_of_srt hs
    have t : decide (Srt xs) = true := decide_eq_true hs
    have HE := Lib.hid e
    clear e hs
    go_enter Tryd.func57, Tryd.ntmps57
    go_wp2_with fail
    refine (right_b _ _ _ _ _ hA (by omega)).mono ?_
    rintro e w1 ⟨rfl, hb1⟩
    have r1 := hA.call (Nat.le_refl _) hb1
    go_wp2
    go_ret
    exact ⟨_, _, _, rfl, Nat.le_refl _, by rw [HE.out]; exact r1, .inl rfl, hb1⟩
  · have t : decide (Srt xs) = false := decide_eq_false hs
    clear hs
    go_enter Tryd.func57, Tryd.ntmps57
    go_wp2_with fail
    refine (right_b _ _ _ _ _ hA (by omega)).mono ?_
    rintro e w1 ⟨rfl, hb1⟩
    have r1 := hA.call (Nat.le_refl _) hb1
    clear hA
    go_wp2_with fail
    refine (of_c _ _ _ _ _ r1 hn).mono ?_
    rintro e w2 ⟨A2, m2, c2, rfl, hm2, ho2, hb2⟩
    have r2 := ho2.rd
    have b2 := below_call hb1 hb2
    have l2 := ho2.lt
    have L2 := Lib.hid l2
    clear l2
    go_wp2
    go_ret
    exact ⟨_, _, _, rfl, hm2, r2, .inr (fun b o e => Nat.le_trans hb1.size (L2.out b o none e).1), b2⟩

/-- A slice of slices of ints: what each reads as. -/
def Rds (w : World) (B : Nat) (A : Option Addr) (m : Nat) (xss : List (List Int)) : Prop :=
  xss.length = m ∧ (0 < m → ∃ b o, A = some ⟨b, o, none⟩ ∧ b < B ∧ ∀ (i : Nat) (xs : List Int), xss[i]? = some xs → ∃ Ai ni ci, w.cell? ⟨b, o + i, none⟩ = some (.slice Ai ni ci) ∧ Rd w B Ai ni xs ∧ ni ≤ ci ∧ ci ≤ 9223372036854775807)
section
variable {w w' : World} {B B' m : Nat} {A : Option Addr} {xss : List (List Int)}
theorem Rds.below (h : Rds w B A m xss) (hb : Below B w w') : Rds w' B A m xss :=
  ⟨h.1, fun hn => by
    obtain ⟨b, o, e, hB, hc⟩ := h.2 hn
    refine ⟨b, o, e, hB, fun i xs hx => ?_⟩
    obtain ⟨Ai, ni, ci, h1, h2, h3⟩ := hc i xs hx
    exact ⟨Ai, ni, ci, (hb.cell hB).trans h1, h2.below hb, h3⟩⟩
theorem Rds.more (h : Rds w B A m xss) (hB : B ≤ B') : Rds w B' A m xss :=
  ⟨h.1, fun hn => by
    obtain ⟨b, o, e, hb, hc⟩ := h.2 hn
    refine ⟨b, o, e, by omega, fun i xs hx => ?_⟩
    obtain ⟨Ai, ni, ci, h1, h2, h3⟩ := hc i xs hx
    exact ⟨Ai, ni, ci, h1, h2.more hB, h3⟩⟩
theorem Rds.call (h : Rds w B A m xss) (hB : B ≤ w.heap.size) (k : Below w.heap.size w w') : Rds w' w'.heap.size A m xss := (h.below (k.mono hB)).more (Nat.le_trans hB k.size)
theorem Rds.pos (h : Rds w B A m xss) (hn : 0 < m) : ∃ b o, A = some ⟨b, o, none⟩ ∧ b < B ∧ ∀ (i : Nat) (xs : List Int), xss[i]? = some xs → ∃ Ai ni ci, w.cell? ⟨b, o + i, none⟩ = some (.slice Ai ni ci) ∧ Rd w B Ai ni xs ∧ ni ≤ ci ∧ ci ≤ 9223372036854775807 := h.2 hn
end

/-- What the rounds over a set keep: the classes' row, the map, and the set's own row, each apart. -/
structure PS (w : World) (base g b n : Nat) (cl : List Int) (q : Nat) (f : Int → Option Int) (sz : Nat) (A : Option Addr) (m : Nat) (S : List Int) : Prop where
  o : Ow w base (some ⟨g, 0, none⟩) n n cl
  mp : Mp w b q f sz
  r : Rd w w.heap.size A m S
  ra : 0 < m → ∀ c o, A = some ⟨c, o, none⟩ → c ≠ g ∧ c ≠ b
  gb : g ≠ b
section
variable {w w' : World} {base g b n q sz m : Nat} {cl S : List Int} {f : Int → Option Int} {A : Option Addr}
theorem PS.store (h : PS w base g b n cl q f sz A m S) (j : Nat) (v : Int) : PS (w.setCell ⟨g, j, none⟩ (.int .i64 v)) base g b n (cl.set j v) q f sz A m S := by
  have hg : w.grownBy (w.setCell ⟨g, j, none⟩ (.int .i64 v)) (some g) := grownBy_set (World.grownBy.refl w _) j _
  have hs : (w.setCell ⟨g, j, none⟩ (.int .i64 v)).heap.size = w.heap.size := by simp
  refine ⟨h.o.stored j v, h.mp.kept hg (by have := h.gb; simp; omega), ?_, h.ra, h.gb⟩
  rw [hs]
  exact h.r.grown hg (Nat.le_refl _) (fun hm b o e => by have := (h.ra hm b o e).1; simp; omega)
theorem PS.put (h : PS w base g b n cl q f sz A m S) {f' : Int → Option Int} {q' sz' : Nat} (hm : Mp w' b q' f' sz') (hg : w.grownBy w' (some b)) : PS w' base g b n cl q' f' sz' A m S := by
  refine ⟨h.o.keep (fun c e => ?_), hm, (h.r.grown hg (Nat.le_refl _) (fun hm b o e => by have := (h.ra hm b o e).2; simp; omega)).more hg.size, h.ra, h.gb⟩
  injection e with e; injection e with e1; subst e1
  exact hg.block g (h.o.lt g 0 none rfl).2 (by have := h.gb; simp; omega)
end

set_option maxRecDepth 100000 in
set_option maxHeartbeats 4000000 in
theorem part_c (n : Nat) (A : Option Addr) (m c : Nat) (xss : List (List Int)) (w : World) (hR : Rds w w.heap.size A m xss) (hn1 : 1 ≤ n) (hn2 : n ≤ 65536) (hm : m ≤ 100) (hl : ∀ xs ∈ xss, xs.length ≤ 1000) :
    Calls Tryd.prog 34 #[.int .i64 n, .slice A m c] w fun e w' => ∃ A' c', e = .returned (.slice A' n c') ∧ Ow w' w.heap.size A' n c' (partL xss n) ∧ Below w.heap.size w w' := by
  have HLL := Lib.hid hl
  have HXL := Lib.hid hR.1
  clear hl
  have hmm := @run_makeMap Tryd.prog
  go_enter Tryd.func34, Tryd.ntmps34
  go_wp2_with (at_make; refine mkI rfl _ _ rfl w w.heap.size n _ _ (by rfl) (by rfl) rfl rfl (by omega) (Nat.le_refl _) ?_; intro w1 ho1 hb1 hz1)
  go_loopw [6, 30] (fun K i wr => ∃ (k : Nat) (cl : List Int) (KK : Int), k ≤ m ∧ i = .int .i64 k ∧ K = .int .i64 KK ∧ Ph n xss k cl KK ∧ Ow wr w.heap.size (some ⟨w.heap.size, 0, none⟩) n n cl ∧ Below w.heap.size w wr) (fun _ i _ => m - (intOf i).toNat)
  case atStart => exact ⟨0, _, 1, by omega, rfl, rfl, Ph.start n xss, ho1, hb1⟩
  case round =>
    obtain ⟨k, c0, K0, hk, rfl, rfl, hPh, hO, hB⟩ := hrel
    clear ho1 hb1 hz1
    have bsr := hB.size
    have HPh := Lib.hid hPh
    have hkb := hPh.kb
    clear hPh
    obtain ⟨wo, rfl⟩ : ∃ wo : World, wo = wr := ⟨_, rfl⟩
    by_cases hlt : k < m
    · have hRr := hR.below hB
      obtain ⟨b, o, rfl, hbw, hc⟩ := hRr.pos (by omega)
      obtain ⟨xs, hxs⟩ : ∃ xs, xss[k]? = some xs := ⟨_, List.getElem?_eq_getElem (by rw [HXL.out]; exact hlt)⟩
      obtain ⟨Ai, ni, ci, d1, r1, _, _⟩ := hc k xs hxs
      have hxl := HLL.out xs (List.mem_of_getElem? hxs)
      rw [r1.len] at hxl
      have HXS := Lib.hid hxs
      clear hc hRr hxs
      go_wp2_with fail
      refine (set_x _ _ _ _ _ ((r1.more bsr).lit _) (by omega)).mono ?_
      rintro e w2 ⟨A2, m2, c2, rfl, hm2, r2, hat2, hb2⟩
      have gO := (hO.lt _ _ _ rfl).2
      have hPS : PS w2 w.heap.size w.heap.size wo.heap.size n c0 0 (fun _ => none) 0 A2 m2 (ofL xs) := by
        refine ⟨(hO.alloc _).call hb2, (Mp.made wo).kept (grown_of_below hb2) (by simp), r2, fun h0 c o e => ?_, by omega⟩
        rcases hat2 with e2 | e2
        · subst e2
          obtain ⟨b', o', e3, hb3, _⟩ := r1.pos (by omega)
          rw [e] at e3; injection e3 with e3; injection e3 with e3; omega
        · have := e2 c o e; simp at this; omega
      have hB2 : Below w.heap.size w w2 := (hB.alloc bsr _).trans (hb2.mono (by simp; omega))
      have hol : (ofL xs).length = m2 := r2.len
      have HOL := Lib.hid hol
      have hI := In1.start K0 (ofL xs) HPh.out.len
      clear hol r2 hat2 hb2 d1 hO hB r1
      go_wp2_with fail
      go_loopw [6, 38] (fun K i wr => ∃ (p q sz : Nat) (cl : List Int) (KK : Int) (f : Int → Option Int), p ≤ m2 ∧ q ≤ p ∧ i = .int .i64 p ∧ K = .int .i64 KK ∧ In1 n c0 K0 (ofL xs) p cl KK f ∧ PS wr w.heap.size w.heap.size wo.heap.size n cl q f sz A2 m2 (ofL xs) ∧ Below w.heap.size w wr) (fun _ i _ => m2 - (intOf i).toNat)
      case atStart => exact ⟨0, 0, 0, c0, K0, _, by omega, by omega, rfl, rfl, hI, hPS, hB2⟩
      case round =>
        obtain ⟨p, q, sz, cl, KK, f, hp, hq, rfl, rfl, hIn, hP, hBr⟩ := hrel
        clear hPS hB2 hI
        have bs2 := hBr.size
        have hIk := hIn.kb
        by_cases hpl : p < m2
        · obtain ⟨x, hx⟩ := getD_some (ofL xs) p (by rw [HOL.out]; exact hpl)
          obtain ⟨b2, o2, rfl, _, hc2⟩ := hP.r.pos (by omega)
          have d2 := hc2 p x hx
          clear hc2
          have hcase : x < 0 ∨ (n : Int) ≤ x ∨ (0 ≤ x ∧ x < n) := by omega
          rcases hcase with h0 | h0 | ⟨h0, h1⟩
          · have HI2 := Lib.hid (hIn.skip hx (.inl h0))
            have HP := Lib.hid hP
            clear hx hIn hP
            go_wp2
            go_roundw
            case rel => exact ⟨p + 1, q, sz, cl, KK, f, by omega, by omega, by go_num, rfl, HI2.out, HP.out, hBr⟩
            case measure => simp [intOf]; omega
          · have HI2 := Lib.hid (hIn.skip hx (.inr h0))
            have HP := Lib.hid hP
            have t0 : decide (x < 0) = false := by simp; omega
            clear hx hIn hP
            go_wp2
            go_roundw
            case rel => exact ⟨p + 1, q, sz, cl, KK, f, by omega, by omega, by go_num, rfl, HI2.out, HP.out, hBr⟩
            case measure => simp [intOf]; omega
          · obtain ⟨j, rfl⟩ : ∃ j : Nat, x = j := ⟨x.toNat, by omega⟩
            have hj : j < n := by omega
            obtain ⟨u, hu⟩ := getD_some cl j (by rw [hIn.len]; exact hj)
            have hug := getD_of hu
            have d3 := hP.o.cell hu
            have hbd := hIn.bd HPh.out hj
            rw [hug] at hbd
            have hub := HPh.out.kb
            have wfu : (Lit.int .i64 u).wf = true := WalkArith.wf_i64 (by omega)
            have wfK : (Lit.int .i64 KK).wf = true := WalkArith.wf_i64 (by omega)
            have WFU := Lib.hid wfu; have WFK := Lib.hid wfK
            clear wfu wfK
            cases hf : f u with
            | some v =>
              have HI2 := Lib.hid (hIn.old (ofL_srt xs) hx hj (v := v) (by rw [hug]; exact hf))
              have f3 := hP.o.frozen j
              have hM := hP.mp
              have HP2 := Lib.hid (hP.store j v)
              have HF := Lib.hid hf
              clear hx hIn hP hug hu hf
              go_wp2_with first
                | (at_lookup; refine mpLookOk rfl (.tmp 54) (.tmp 55) rfl wr wo.heap.size q sz f u (by rfl) (by rfl) WFU.out hM ?_; simp only [HF.out, Option.getD_some, Option.isSome_some])
                | (at_lookup; refine mpGet rfl (.tmp 68) (.tmp 69) rfl wr wo.heap.size q sz f u (by rfl) (by rfl) WFU.out hM ?_; simp only [HF.out, Option.getD_some])
              go_roundw
              case rel => exact ⟨p + 1, q, sz, _, KK, f, by omega, by omega, by go_num, rfl, HI2.out, HP2.out, hBr.setCell (Nat.le_refl _) _⟩
              case measure => simp [intOf]; omega
            | none =>
              have hn2 := hIn.new (ofL_srt xs) hx hj (by rw [hug]; exact hf)
              rw [hug] at hn2
              have HI2 := Lib.hid hn2
              have hM := hP.mp
              have HP := Lib.hid hP
              have HF := Lib.hid hf
              have HU := Lib.hid hu
              clear hx hIn hP hug hu hf hn2
              go_wp2_with first
                | (at_lookup; refine mpLookOk rfl (.tmp 54) (.tmp 55) rfl wr wo.heap.size q sz f u (by rfl) (by rfl) WFU.out hM ?_; simp only [HF.out, Option.getD_none, Option.isSome_none])
                | (at_mapUpdate; refine mpPut rfl (.tmp 61) (.tmp 62) (.tmp 63) rfl wr wo.heap.size q sz f u KK (by rfl) (by rfl) (by rfl) WFU.out WFK.out (by unfold maxLen; omega) hM ?_; intro w5 hM5 hg5; have hP5 := HP.out.put hM5 hg5; have d5 := hP5.o.cell HU.out; have f5 := hP5.o.frozen j; have HP6 := Lib.hid (hP5.store j KK); have HG5 := Lib.hid hg5; clear hP5 hg5 d3)
                | (at_lookup; refine mpGet rfl (.tmp 68) (.tmp 69) rfl w5 wo.heap.size (q + 1) _ (fun j => if j = u then some KK else f j) u (by rfl) (by rfl) WFU.out hM5 ?_; simp only [if_true, Option.getD_some])
              go_roundw
              case rel => exact ⟨p + 1, q + 1, _, _, KK + 1, _, by omega, by omega, by go_num, by go_num, HI2.out, HP6.out, (hBr.grown HG5.out bs2 (fun k hk => by injection hk; omega)).setCell (Nat.le_refl _) _⟩
              case measure => simp [intOf]; omega
        · obtain rfl : p = m2 := by omega
          rw [← HOL.out] at hIn
          have hNx := HPh.out.next HXS.out hIn (by rw [HOL.out]; omega)
          have HNX := Lib.hid hNx
          have HO := Lib.hid hP.o
          clear hIn hNx hP
          go_wp2
          go_roundw
          case rel => exact ⟨k + 1, cl, KK, by omega, by go_num, rfl, HNX.out, HO.out, hBr⟩
          case measure => simp [intOf]; omega
    · obtain rfl : k = m := by omega
      have gO := (hO.lt _ _ _ rfl).2
      have hPh2 := HPh.out
      rw [← HXL.out] at hPh2
      have HLast := Lib.hid hPh2.last
      have hcl := HPh.out.len
      have HCL := Lib.hid hcl
      have hPS : PS (wo.alloc (.map #[] 0)) w.heap.size w.heap.size wo.heap.size n (mixed c0 0) 0 (gm c0 0) (nF (c0.getD · 0) 0) none 0 [] := by
        rw [mixed_zero, gm_zero]
        exact ⟨hO.alloc _, Mp.made wo, Rd.nil, fun h => by omega, by omega⟩
      have hB2 := hB.alloc bsr (.map #[] 0)
      clear hcl hPh2 hO hB hkb
      go_wp2
      go_loopw [77] (fun i wr => ∃ (p q : Nat), p ≤ n ∧ q ≤ p ∧ i = .int .i64 p ∧ PS wr w.heap.size w.heap.size wo.heap.size n (mixed c0 p) q (gm c0 p) (nF (c0.getD · 0) p) none 0 [] ∧ Below w.heap.size w wr) (fun i _ => n - (intOf i).toNat)
      case atStart => exact ⟨0, 0, by omega, by omega, rfl, hPS, hB2⟩
      case round =>
        obtain ⟨p, q, hp, hq, rfl, hP, hBr⟩ := hrel
        clear hPS hB2
        have bs2 := hBr.size
        by_cases hpl : p < n
        · have hmx := mixed_at (cs := c0) (i := p) (by rw [HCL.out]; exact hpl)
          have hms := mixed_succ (cs := c0) (i := p) (by rw [HCL.out]; exact hpl)
          have hbd := HPh.out.bd p hpl
          have hub := HPh.out.kb
          have hnl := nF_le (c0.getD · 0) p
          have d3 := hP.o.cell hmx
          have hcn := fun h => class_new (f := (c0.getD · 0)) (i := p) h
          have hnf := nF_succ (c0.getD · 0) p
          obtain ⟨u, hu⟩ : ∃ u, u = c0.getD p 0 := ⟨_, rfl⟩
          have wfu : (Lit.int .i64 u).wf = true := WalkArith.wf_i64 (by rw [hu]; omega)
          have WFU := Lib.hid wfu
          rw [← hu] at d3 hmx
          have hM := hP.mp
          by_cases hfo : firstOf (c0.getD · 0) p < p
          · have hf := gm_known hfo
            have hg2 := gm_succ_known hfo
            rw [if_neg (by omega)] at hnf
            rw [← hu] at hf
            obtain ⟨v, hv⟩ : ∃ v, v = classOf (c0.getD · 0) p := ⟨_, rfl⟩
            rw [← hv] at hf hms
            have f3 := hP.o.frozen p
            have HP2 := Lib.hid (hP.store p (v : Int))
            have HF := Lib.hid hf
            have HMS := Lib.hid hms; have HG2 := Lib.hid hg2; have HNF := Lib.hid hnf
            clear hmx hms hbd hub hcn hnf hf hg2 hP hu hv wfu hfo
            go_wp2_with first
              | (at_lookup; refine mpLookOk rfl (.tmp 83) (.tmp 84) rfl wr wo.heap.size q _ (gm c0 p) u (by rfl) (by rfl) WFU.out hM ?_; simp only [HF.out, Option.getD_some, Option.isSome_some])
              | (at_lookup; refine mpGet rfl (.tmp 96) (.tmp 97) rfl wr wo.heap.size q _ (gm c0 p) u (by rfl) (by rfl) WFU.out hM ?_; simp only [HF.out, Option.getD_some])
            go_roundw
            case rel => exact ⟨p + 1, q, by omega, by omega, by go_num, by rw [HMS.out, HG2.out, HNF.out]; exact HP2.out, hBr.setCell (Nat.le_refl _) _⟩
            case measure => simp [intOf]; omega
          · have hf := gm_new hfo
            have hg2 := gm_succ_new hfo
            have hfe : firstOf (c0.getD · 0) p = p := by have := fo_le (c0.getD · 0) p; omega
            rw [if_pos hfe] at hnf
            rw [hcn hfe] at hms
            rw [← hu] at hf hg2
            obtain ⟨v, hv⟩ : ∃ v, v = nF (c0.getD · 0) p := ⟨_, rfl⟩
            rw [← hv] at hms hg2 hnl hnf hM hP
            have wfv : (Lit.int .i64 (v : Int)).wf = true := WalkArith.wf_i64 (by omega)
            have WFV := Lib.hid wfv
            have HP := Lib.hid hP
            have HF := Lib.hid hf
            have HMX := Lib.hid hmx
            have HMS := Lib.hid hms; have HG2 := Lib.hid hg2; have HNF := Lib.hid hnf
            clear hmx hms hbd hub hcn hnf hf hg2 hP hu hv wfu hfo hfe wfv
            go_wp2_with first
              | (at_lookup; refine mpLookOk rfl (.tmp 83) (.tmp 84) rfl wr wo.heap.size q v (gm c0 p) u (by rfl) (by rfl) WFU.out hM ?_; simp only [HF.out, Option.getD_none, Option.isSome_none])
              | (at_len; refine mpLen rfl (.tmp 92) rfl wr wo.heap.size q v (gm c0 p) (by rfl) hM ?_)
              | (at_mapUpdate; refine mpPut rfl (.tmp 90) (.tmp 91) (.tmp 93) rfl wr wo.heap.size q v (gm c0 p) u (v : Int) (by rfl) (by rfl) (by rfl) WFU.out WFV.out (by unfold maxLen; omega) hM ?_; intro w5 hM5 hg5; simp only [HF.out, Option.isSome_none, Bool.false_eq_true, if_false] at hM5; have hP5 := HP.out.put hM5 hg5; have d5 := hP5.o.cell HMX.out; have f5 := hP5.o.frozen p; have HP6 := Lib.hid (hP5.store p (v : Int)); have HG5 := Lib.hid hg5; clear hP5 hg5 d3)
              | (at_lookup; refine mpGet rfl (.tmp 96) (.tmp 97) rfl w5 wo.heap.size (q + 1) _ (fun j => if j = u then some (v : Int) else gm c0 p j) u (by rfl) (by rfl) WFU.out hM5 ?_; simp only [if_true, Option.getD_some])
            go_roundw
            case rel => exact ⟨p + 1, q + 1, by omega, by omega, by go_num, by rw [HMS.out, HG2.out, HNF.out]; exact HP6.out, (hBr.grown HG5.out bs2 (fun k hk => by injection hk; omega)).setCell (Nat.le_refl _) _⟩
            case measure => simp [intOf]; omega
        · obtain rfl : p = n := by omega
          have hO := hP.o
          have e : mixed c0 p = partL xss p := by
            have := mixed_all c0
            rw [HCL.out] at this; rw [this]; exact HLast.out
          rw [e] at hO
          clear hP e
          go_wp2
          go_ret
          exact ⟨_, _, rfl, hO, hBr⟩

end Go.Proofs.YtgcmedkaadagmaaDoor.S6
