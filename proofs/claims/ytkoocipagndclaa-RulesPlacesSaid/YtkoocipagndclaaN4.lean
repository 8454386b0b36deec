/- Walk: RulesClusters. -/
import Derived.Test.YtkoocipagndclaaN2
namespace Go.Proofs.Ytkoocipagndclaa
open Go.RowKit Go.Shelf

theorem clu_at {run : List Itm} {j : Nat} {x : Itm} (h : run[j]? = some x) : (clu run)[j]? = some x.c := by unfold clu; rw [List.getElem?_map, h]; rfl
theorem clu_take' {run : List Itm} {j : Nat} {x : Itm} (h : run[j]? = some x) : ic (clu (run.take (j + 1))) = ic (clu (run.take j)) ++ [.int .i64 x.c] := by
  unfold clu ic; rw [List.take_add_one, h]; simp
def risesTo (run : List Itm) (i : Nat) : Prop := ∀ (j : Nat) (x y : Itm), j + 1 < i → run[j]? = some x → run[j + 1]? = some y → x.c ≤ y.c
theorem rises0 (run : List Itm) : risesTo run 0 := fun j x y h => by omega
theorem rises1 (run : List Itm) : risesTo run (0 + 1) := fun j x y h => by omega
theorem rises_step {run : List Itm} {p : Nat} {x y : Itm} (h : risesTo run (p + 1)) (hx : run[p]? = some x) (hy : run[p + 1]? = some y) (hc : x.c ≤ y.c) : risesTo run (p + 1 + 1) := fun j a b hj ha hb => by
  by_cases e : j = p
  · subst e; rw [hx] at ha; rw [hy] at hb; injection ha with ha; injection hb with hb; subst ha; subst hb; exact hc
  · exact h j a b (by omega) ha hb
theorem rises_all {run : List Itm} (h : risesTo run run.length) : (clu run).Pairwise (· ≤ ·) := by
  rw [List.pairwise_iff_getElem]
  have key : ∀ (d i : Nat) (hi : i + d < run.length), (run[i]'(by omega)).c ≤ (run[i + d]'hi).c := by
    intro d
    induction d with
    | zero => intro i hi; exact Int.le_refl _
    | succ d ih =>
      intro i hi
      have h1 := ih i (by omega)
      have h2 := h (i + d) _ _ (by omega) (List.getElem?_eq_getElem (by omega)) (List.getElem?_eq_getElem (by omega))
      exact Int.le_trans h1 h2
  intro i j hi hj hlt
  have hj' : j < run.length := by unfold clu at hj; simpa using hj
  have := key (j - i) i (by omega)
  have e : i + (j - i) = j := by omega
  simp only [e] at this
  simpa [clu] using this
theorem pw_adj {l : List Itm} (h : (clu l).Pairwise (· ≤ ·)) {j : Nat} {x y : Itm} (hx : l[j]? = some x) (hy : l[j + 1]? = some y) : x.c ≤ y.c := by
  obtain ⟨h1, rfl⟩ := List.getElem?_eq_some_iff.1 hx
  obtain ⟨h2, rfl⟩ := List.getElem?_eq_some_iff.1 hy
  have := List.pairwise_iff_getElem.1 h j (j + 1) (by unfold clu; simpa using h1) (by unfold clu; simpa using h2) (by omega)
  simpa [clu] using this
theorem item_at {w : World} {S : Nat → Prop} {b o n : Nat} {run : List Itm} {i : Nat} {x : Itm} (h : RdI w S (some ⟨b, o, none⟩) n run) (hx : run[i]? = some x) : w.cell? ⟨b, o + i * 6, none⟩ = some (.int .i64 x.g) ∧ w.cell? ⟨b, o + i * 6 + 1, none⟩ = some (.int .i64 x.c) ∧ w.cell? ⟨b, o + i * 6 + 2, none⟩ = some (.int .i64 x.f) ∧ w.cell? ⟨b, o + i * 6 + 3, none⟩ = some (.int .i64 x.a) ∧ w.cell? ⟨b, o + i * 6 + 4, none⟩ = some (.int .i64 x.x) ∧ w.cell? ⟨b, o + i * 6 + 5, none⟩ = some (.int .i64 x.y) := by
  have hl := h.len
  have hil := (List.getElem?_eq_some_iff.1 hx).1
  obtain ⟨b', o', e, _, hc⟩ := h.pos (by omega)
  injection e with e
  injection e with e1 e2
  subst e1; subst e2
  obtain ⟨cs, rfl, hcc⟩ := hc i x hx
  exact ⟨hcc 0 _ rfl, hcc 1 _ rfl, hcc 2 _ rfl, hcc 3 _ rfl, hcc 4 _ rfl, hcc 5 _ rfl⟩
theorem lin_t (A : Option Addr) (n c : Nat) (xs : List Int) (g : Int) (w : World) (h : Rd w (lo w.heap.size) A n xs) (hn : n ≤ 9223372036854775807) (hc : xs.contains g = true) :
    Calls Try.prog 21 #[.slice A n c, .int .i64 g] w fun e w' => e = .returned (.bool true) ∧ ∃ d, w' = w.drewN d :=
  (lin_c A n c xs g w h hn).mono fun e w' ⟨h1, h2⟩ => by rw [h1, hc, ← h2]; exact ⟨rfl, 0, rfl⟩
theorem wrap_id {x : Int} (h1 : -9223372036854775808 ≤ x) (h2 : x ≤ 9223372036854775807) : IntKind.i64.wrap x = x := by
  rw [IntKind.wrap_i64]; omega
set_option maxRecDepth 100000 in
set_option maxHeartbeats 4000000 in
theorem rulesClusters_walk (f : FV) (F : Fnt) (n : Int) (RA : Option Addr) (rn rc : Nat) (run : List Itm) (k : Int) (FA : Option Addr) (fn fc : Nat) (forms : List Int) (w : World) (hf : IsF w (lo w.heap.size) f F) (hI : RdI w (lo w.heap.size) RA rn run) (hd : Hd rn rc) (hF : Rd w (lo w.heap.size) FA fn forms) (hfd : Hd fn fc) :
    Calls Try.prog 8 #[.agg (askC f n RA rn rc k FA fn fc)] w (TP w) := by
  have hrnM : rn ≤ 9223372036854775807 := Nat.le_trans hd.1 hd.2
  have hfnM : fn ≤ 9223372036854775807 := Nat.le_trans hfd.1 hfd.2
  have hs_0 := AS.new (n := n) (k := k) (rc := rc) (fc := fc) hf hI hF
  unfold askC at hs_0 ⊢
  go_enter Try.func8, Try.ntmps8
  go_upto_region 1 with fail
  generalize w.alloc (.cells #[.int .i64 f.u0, .slice f.ga f.gn f.gc, .slice f.ca f.cn f.cc, .slice f.la f.ln f.lc, .slice f.a4 f.n4 f.c4, .slice f.a5 f.n5 f.c5, .slice f.a6 f.n6 f.c6, .slice f.a7 f.n7 f.c7, .slice f.a8 f.n8 f.c8, .int .i64 n, .slice RA rn rc, .int .i64 k, .slice FA fn fc] 34) = w0 at hs_0 ⊢
  generalize hbf : w.heap.size = bf at hs_0 ⊢
  clear hf hI hF
  have HC := Lib.hid (big11_c f F RA rn rc run w0 hs_0.hf hs_0.hI hrnM)
  unfold FV.cells at HC
  obtain ⟨y0, y1, y2, y3, y4, y5, y6, y7, y8, y9, y10, y11, y12⟩ := hs_0.cells
  go_wp2_with fail
  refine HC.out.mono ?_
  rintro e w1 ⟨rfl, b1⟩
  clear HC y0 y1 y2 y3 y4 y5 y6 y7 y8 y9 y10 y11 y12
  have hs_1 := hs_0.call b1
  clear hs_0 b1
  cases hbig : big11 F run with
  | true =>
    go_wp2
    go_ret
    exact ⟨rfl, hs_1.bw⟩
  | false =>
    have hsm := small11 hbig
    have hrn : rn ≤ 300 := by have := hs_1.hI.len; have := hsm.run; omega
    have HSM := Lib.hid hsm
    have HRL := Lib.hid hs_1.hI.len
    clear hbig hsm
    obtain ⟨y0, y1, y2, y3, y4, y5, y6, y7, y8, y9, y10, y11, y12⟩ := hs_1.cells
    go_upto_region 5 with fail
    clear y0 y1 y2 y3 y4 y5 y6 y7 y8 y9 y10 y11 y12
    have bE : Below w1.heap.size w1 (w1.alloc (.cells #[] 3)) := (Below.refl _ _).alloc (Nat.le_refl _) _
    have oE := own_empty w1 3 1
    go_wp2
    go_loopw [3, 4, 5] (fun s3 s4 s5 wr => ∃ (i c : Nat) (A : Option Addr) (r : Bool), s3 = .slice A i c ∧ s4 = .bool r ∧ s5 = .int .i64 (i : Int) ∧ i ≤ rn ∧ Ow 3 1 wr w1.heap.size A i c (ic (clu (run.take i))) ∧ (r = true → risesTo run i) ∧ Below w1.heap.size w1 wr) (fun _ _ s _ => rn - (intOf s).toNat)
    case atStart => exact ⟨0, 0, _, true, rfl, rfl, rfl, by omega, oE, fun _ => rises0 _, bE⟩
    case round =>
      obtain ⟨i, c, A, r, rfl, rfl, rfl, hi, ho, hr, hbr⟩ := hrel
      have hsr := hs_1.call hbr
      have HR := Lib.hid hr
      clear bE oE hr
      by_cases hlt : i < rn
      · obtain ⟨it, hit⟩ := at_some run i (by have := HRL.out; omega)
        obtain ⟨b, o, hRA, _, _⟩ := hsr.hI.pos (by omega)
        subst hRA
        obtain ⟨g0, g1, g2, g3, g4, g5⟩ := item_at hsr.hI hit
        have HIT := Lib.hid hit
        have iz : (0 : Int) ≤ (i : Int) := by omega
        have il : (i : Int) < (rn : Int) := by omega
        have HBS := Lib.hid hbr.size
        obtain ⟨y0, y1, y2, y3, y4, y5, y6, y7, y8, y9, y10, y11, y12⟩ := hsr.cells
        clear g0 g2 g3 g4 g5 hit
        go_wp2_with (at_builtin; refine appP elt_int rfl (.tmp 21) (.tmp 28) rfl (wr.alloc (.cells #[.int .i64 it.c] 3)) w1.heap.size _ _ _ _ _ _ _ [.int .i64 it.c] (by rfl) (by rfl) (ho.alloc _) rfl (news_new _ _ _) (by simp [Value.oneCell']) (by omega) (by have := HBS.out; simp; omega) ?_; intro A2 c2 w2 ho2 hg2 hb2 hat2)
        have hbr2 := (hbr.alloc hbr.size (.cells #[.int .i64 it.c] 3)).trans hb2
        have hs2 := hs_1.call hbr2
        rw [← clu_take' HIT.out] at ho2
        clear g1 y0 y1 y2 y3 y4 y5 y6 y7 y8 y9 y10 y11 y12 hsr hbr hb2 hat2 hg2 ho HBS
        obtain ⟨g0, g1, g2, g3, g4, g5⟩ := item_at hs2.hI HIT.out
        clear g0 g2 g3 g4 g5
        obtain ⟨y0, y1, y2, y3, y4, y5, y6, y7, y8, y9, y10, y11, y12⟩ := hs2.cells
        cases r with
        | false =>
          clear g1
          go_quiet (fail)
          go_wp2
          go_roundw
          case rel => exact ⟨i + 1, c2, A2, false, rfl, rfl, by go_num, by omega, ho2, (fun h => by cases h), below_drewN hbr2 _⟩
          case measure => simp [intOf]; omega
        | true =>
          by_cases hi0 : i = 0
          · have t0 : ((i : Int) == 0) = true := by simp; omega
            clear g1
            go_quiet (fail)
            go_wp2
            go_roundw
            case rel => exact ⟨i + 1, c2, A2, true, rfl, rfl, by go_num, by omega, ho2, fun _ => by subst hi0; exact rises1 _, below_drewN hbr2 _⟩
            case measure => simp [intOf]; omega
          · obtain ⟨p, hp⟩ : ∃ p : Nat, i = p + 1 := ⟨i - 1, by omega⟩
            have t0 : ((i : Int) == 0) = false := by simp; omega
            have hw1 : IntKind.i64.wrap ((i : Int) - 1) = (p : Int) := by rw [wrap_id (by omega) (by omega)]; omega
            obtain ⟨ip, hip⟩ := at_some run p (by have := HRL.out; omega)
            obtain ⟨k0, k1, k2, k3, k4, k5⟩ := item_at hs2.hI hip
            have HIP := Lib.hid hip
            have HP := Lib.hid hp
            have pz : (0 : Int) ≤ (p : Int) := by omega
            have pl : (p : Int) < (rn : Int) := by omega
            clear k0 k2 k3 k4 k5 hip hp hi0
            by_cases hc : ip.c ≤ it.c
            · have HCC := Lib.hid hc
              have tc : decide (ip.c ≤ it.c) = true := by simp [hc]
              clear hc
              go_quiet (fail)
              go_wp2
              go_roundw
              case rel => exact ⟨i + 1, c2, A2, true, rfl, rfl, by go_num, by omega, ho2, fun _ => by have e := HP.out; subst e; exact rises_step (HR.out rfl) HIP.out HIT.out HCC.out, below_drewN hbr2 _⟩
              case measure => simp [intOf]; omega
            · have tc : decide (ip.c ≤ it.c) = false := by simp; omega
              clear hc
              go_quiet (fail)
              go_wp2
              go_roundw
              case rel => exact ⟨i + 1, c2, A2, false, rfl, rfl, by go_num, by omega, ho2, (fun h => by cases h), below_drewN hbr2 _⟩
              case measure => simp [intOf]; omega
      · have il : decide ((i : Int) < (rn : Int)) = false := by simp; omega
        have il' : decide (i < rn) = false := by simp; omega
        have hirn : i = rn := by omega
        have HRA := Lib.hid (show r = true → (clu run).Pairwise (· ≤ ·) from fun h => rises_all (by have := HR.out h; rw [hirn] at this; rw [HRL.out]; exact this))
        have hall : Rd wr (lo wr.heap.size) A i (clu run) := by have := ho.rd; rw [hirn, List.take_of_length_le (by have := HRL.out; omega)] at this; rw [hirn]; exact this
        have hiM : i ≤ 9223372036854775807 := by omega
        clear ho hbr hs_1 HR hirn
        have HC := Lib.hid (apply_all f F n RA rn rc run FA fn fc forms wr hsr.hf hsr.hI hsr.hF hfnM (by have := HRL.out; omega) HSM.out.sm HSM.out.o)
        unfold FV.cells at HC
        obtain ⟨y0, y1, y2, y3, y4, y5, y6, y7, y8, y9, y10, y11, y12⟩ := hsr.cells
        go_wp2_with fail
        refine HC.out.mono ?_
        rintro e w3 ⟨A3, n3, c3, rfl, o3, b3⟩
        clear HC y0 y1 y2 y3 y4 y5 y6 y7 y8 y9 y10 y11 y12
        have hs3 := hsr.call b3
        have hall3 := hall.call b3
        have hI3 := o3.rdI
        have HN3 := Lib.hid hI3.len
        have HLN := Lib.hid (show n3 ≤ 1000 by have h1 := hI3.len; have h2 := apply_len w64 F n run forms; have := HRL.out; omega)
        have HCLU := Lib.hid (apply_clu w64 F n run forms)
        generalize applyL w64 F n run forms = l at *
        clear hsr hall b3 o3
        go_wp2
        go_loopw [7] (fun s7 wr' => ∃ j d : Nat, j ≤ n3 ∧ s7 = .int .i64 (j : Int) ∧ wr' = w3.drewN d) (fun s _ => n3 - (intOf s).toNat)
        case atStart => exact ⟨0, 0, by omega, rfl, rfl⟩
        case round =>
          obtain ⟨j, d, hj, rfl, rfl⟩ := hrel
          by_cases hjl : j < n3
          · obtain ⟨x, hx⟩ := at_some l j (by have := HN3.out; omega)
            obtain ⟨b, o, hA3, _, _⟩ := hI3.pos (by omega)
            subst hA3
            obtain ⟨g0, g1, g2, g3, g4, g5⟩ := item_at hI3 hx
            clear g0 g2 g3 g4 g5
            have jz : (0 : Int) ≤ (j : Int) := by omega
            have jl : (j : Int) < (n3 : Int) := by omega
            have hin : (clu run).contains x.c = true := by simpa using HCLU.out.1 x.c (List.mem_of_getElem? (clu_at hx))
            have HIN := Lib.hid fun (W : World) (h : Rd W (lo W.heap.size) A i (clu run)) => lin_t A i c (clu run) x.c W h hiM hin
            have HAL := Lib.hid hall3
            have HX := Lib.hid hx
            have hjM : j ≤ 1000 := by have := HLN.out; omega
            clear hin hx
            cases r with
            | false =>
              go_wp2
              go_quiet ((go_at_call 21; (first | (with_reducible refine quiet_d (HIN.out _ ?_)) | (with_reducible refine quiet_add_d (HIN.out _ ?_))); exact HAL.out))
              go_wp2
              go_roundw
              case rel => exact ⟨j + 1, _, by omega, by go_num, rfl⟩
              case measure => simp [intOf]; omega
            | true =>
              by_cases hj0 : j = 0
              · have t0 : decide ((0 : Int) < (j : Int)) = false := by simp; omega
                have t0' : decide (0 < j) = false := by simp; omega
                clear hj0
                go_wp2
                go_quiet ((go_at_call 21; (first | (with_reducible refine quiet_d (HIN.out _ ?_)) | (with_reducible refine quiet_add_d (HIN.out _ ?_))); exact HAL.out))
                go_wp2
                go_roundw
                case rel => exact ⟨j + 1, _, by omega, by go_num, rfl⟩
                case measure => simp [intOf]; omega
              · obtain ⟨p, hp⟩ : ∃ p : Nat, j = p + 1 := ⟨j - 1, by omega⟩
                have t0 : decide ((0 : Int) < (j : Int)) = true := by simp; omega
                have t0' : decide (0 < j) = true := by simp; omega
                have hw1 : IntKind.i64.wrap ((j : Int) - 1) = (p : Int) := by rw [wrap_id (by omega) (by omega)]; omega
                obtain ⟨ip, hip⟩ := at_some l p (by have := HN3.out; omega)
                obtain ⟨k0, k1, k2, k3, k4, k5⟩ := item_at hI3 hip
                have pz : (0 : Int) ≤ (p : Int) := by omega
                have pl : (p : Int) < (n3 : Int) := by omega
                have hle := pw_adj (HCLU.out.2 (HRA.out rfl)) hip (by rw [← hp]; exact HX.out)
                have tc : decide (x.c < ip.c) = false := by simp; omega
                clear k0 k2 k3 k4 k5 hip hp hj0 hle
                go_wp2
                go_quiet ((go_at_call 21; (first | (with_reducible refine quiet_d (HIN.out _ ?_)) | (with_reducible refine quiet_add_d (HIN.out _ ?_))); exact HAL.out))
                go_wp2
                go_roundw
                case rel => exact ⟨j + 1, _, by omega, by go_num, rfl⟩
                case measure => simp [intOf]; omega
          · have jl : decide ((j : Int) < (n3 : Int)) = false := by simp; omega
            have jl' : decide (j < n3) = false := by simp; omega
            go_wp2_with fail
            refine (ruled_c _).mono ?_
            rintro e w9 ⟨rfl, b9⟩
            go_wp2
            go_ret
            exact ⟨rfl, below_call hs3.bw (below_call (below_drewN (Below.refl w3.heap.size w3) d) b9)⟩

end Go.Proofs.Ytkoocipagndclaa
