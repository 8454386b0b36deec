/- Walks: nth. -/
import Derived.Test.YtkoocipagndclaaD6
namespace Go.Proofs.Ytkoocipagndclaa
open Go.RowKit Go.Shelf
attribute [local go_sem] Oper.semAt_some

/-- What the iterator reads: its four boxes, the run, the font's glyphs; S: the blocks that stay. -/
structure It2 (w : World) (S : Nat → Prop) (B1 B2 B3 B4 Bw : Nat) (f : FV) (F : Fnt) (RA : Option Addr) (rn rc : Nat) (run : List Itm) (ign : Bool) (k s : Int) : Prop where
  bd : ∀ b, S b → b < w.heap.size
  l1 : S B1
  l2 : S B2
  l3 : S B3
  l4 : S B4
  lw : S Bw
  c1 : w.cell? ⟨B1, 0, none⟩ = some (.int .i64 k)
  c2 : w.cell? ⟨B2, 0, none⟩ = some (.pointer (some ⟨Bw, 0, none⟩))
  c3 : w.cell? ⟨B3, 0, none⟩ = some (.int .i64 s)
  c4 : w.cell? ⟨B4, 0, none⟩ = some (.bool ign)
  w1 : w.cell? ⟨Bw, 1, none⟩ = some (.slice f.ga f.gn f.gc)
  w9 : w.cell? ⟨Bw, 9, none⟩ = some (.slice RA rn rc)
  run : RdI w (S) RA rn run
  font : IsF w (S) f F
  hrn : rn ≤ 9223372036854775806
theorem It2.kept {w w' : World} {S : Nat → Prop} {B1 B2 B3 B4 Bw : Nat} {f : FV} {F : Fnt} {RA : Option Addr} {rn rc : Nat} {run : List Itm} {ign : Bool} {k s : Int} (h : It2 w S B1 B2 B3 B4 Bw f F RA rn rc run ign k s) (hk : Kept (S) w w') (hb : ∀ b, S b → b < w'.heap.size) : It2 w' S B1 B2 B3 B4 Bw f F RA rn rc run ign k s :=
  ⟨hb, h.l1, h.l2, h.l3, h.l4, h.lw, (hk.cell (p := ⟨B1, 0, none⟩) h.l1).trans h.c1, (hk.cell (p := ⟨B2, 0, none⟩) h.l2).trans h.c2, (hk.cell (p := ⟨B3, 0, none⟩) h.l3).trans h.c3, (hk.cell (p := ⟨B4, 0, none⟩) h.l4).trans h.c4,
    (hk.cell (p := ⟨Bw, 1, none⟩) h.lw).trans h.w1, (hk.cell (p := ⟨Bw, 9, none⟩) h.lw).trans h.w9, h.run.mono (fun _ h => h) hk, h.font.mono (fun _ h => h) hk, h.hrn⟩
theorem kept_size2 {S : Nat → Prop} {w w' : World} (h : Kept S w w') (hB : ∀ b, S b → b < w.heap.size) : ∀ b, S b → b < w'.heap.size := fun b hb => by
  have h1 := h b hb
  rw [show w.heap[b]? = some (w.heap[b]'(hB b hb)) from Array.getElem?_eq_getElem (hB b hb)] at h1
  exact (Array.getElem?_eq_some_iff.1 h1).1

set_option maxRecDepth 100000 in
set_option maxHeartbeats 4000000 in
theorem seenUp2_stops (m : Nat) (S : Nat → Prop) (B1 B2 B3 B4 Bw : Nat) (f : FV) (F : Fnt) (RA : Option Addr) (rn rc : Nat) (run : List Itm) (ign : Bool) (k0 : Nat) (w : World) (hm : 1 ≤ m) (hI : It2 w S B1 B2 B3 B4 Bw f F RA rn rc run ign (k0 : Int) 1) :
    SeqStopsK Fence.wide m Try.prog 54 #[.pointer (some ⟨B1, 0, none⟩), .pointer (some ⟨B2, 0, none⟩), .pointer (some ⟨B3, 0, none⟩), .pointer (some ⟨B4, 0, none⟩)] (fun (x : Nat) => #[.int .i64 (x : Int)]) (Kept (S))
      (fun l => l = upL (seenB F ign run) rn k0) (Pre (upL (seenB F ign run) rn k0)) (rn + 1) w := by
  intro l J Jx W hbW hJ hJx hY h0
  have HJ := Lib.hid hJ; clear hJ hJx
  have kW : Kept (S) w W := (kept_below hbW).sub (fun b hb => hI.bd b hb)
  have iW := hI.kept kW (kept_size2 kW hI.bd)
  clear hbW hI
  have HL := Lib.hid iW.run.len
  have hrn := iW.hrn
  refine callsIn_of_wp Try.func54 rfl trivial ?_ rfl
  simp only [Try.ntmps54, List.size_toArray, List.length_cons, List.length_nil, Nat.reduceAdd, Nat.reduceSub, Array.replicate_succ, Array.replicate_zero, List.push_toArray, List.append_toArray, List.nil_append, List.cons_append]
  have c1 := iW.c1
  have HY := Lib.hid hY; clear hY
  have hFw : ∀ k, Fence.wide.fn k := fun _ => trivial
  gi_wp2
  clear c1
  gi_loopw [6] (fun vf wr => ∃ (k : Nat) (pre : List Nat), vf = .int .i64 (k : Int) ∧ k0 ≤ k ∧ (k ≤ rn ∨ k = k0) ∧ pre.length ≤ k - k0 ∧ upL (seenB F ign run) rn k0 = pre ++ upL (seenB F ign run) rn k ∧ J pre wr ∧ Kept (S) W wr ∧ (∀ b, S b → b < wr.heap.size)) (fun vf _ => rn - (intOf vf).toNat)
  case atStart => exact ⟨k0, [], rfl, Nat.le_refl _, .inr rfl, by simp, rfl, h0, Kept.refl _ _, iW.bd⟩
  case round =>
    obtain ⟨k, pre, rfl, hk1, hk2, hk3, hgr, hJs, hkp, hsz⟩ := hrel
    have HG := Lib.hid hgr; clear hgr
    have iw := iW.kept hkp hsz
    have cw := iw.c2
    have c3 := iw.c3
    have c4 := iw.c4
    have w9 := iw.w9
    by_cases hlt : k < rn
    · have hz0 : True := trivial
      obtain ⟨b, o, rfl, hb, hc⟩ := iw.run.pos (by have := HL.out; omega)
      obtain ⟨it, hit⟩ := at_some run k (by have := HL.out; omega)
      obtain ⟨cs, rfl, hcc⟩ := hc k it hit
      have g0 := hcc 0 _ rfl
      rw [Nat.add_zero] at g0
      clear hc hcc
      have kz : (0 : Int) ≤ (k : Int) := by omega
      have kn : (k : Int) < (rn : Int) := by omega
      have kd : decide ((k : Int) < (rn : Int)) = true := by simp; omega
      have hMk := fun (d : Nat) => isMark_c Bw f F it.g (wr.drewN d) (iw.font.mono (S' := lo (wr.drewN d).heap.size) (w' := wr.drewN d) (fun b hb => iw.bd b hb) (Kept.refl _ _)) iw.w1
      have HM := Lib.hid hMk; clear hMk
      have hsn : seenB F ign run k = !(ign && isMark F it.g) := by unfold seenB; rw [gAt_some hit]
      have YL := Lib.hid fun (d : Nat) => HY.out pre k (wr.drewN d) (HJ.out _ _ _ none hJs (grown_drewN _ _) (fun r e => by cases e)) (by omega)
      have mixed : Try.prog.follows Departure.mixedOrders = true := by kernel_rfl
      have yes : seenB F ign run k = true → upL (seenB F ign run) rn k0 = (pre ++ [k]) ++ upL (seenB F ign run) rn (k + 1) := fun h => by rw [HG.out, upL_yes hlt h]; simp
      have no : seenB F ign run k = false → upL (seenB F ign run) rn k0 = pre ++ upL (seenB F ign run) rn (k + 1) := fun h => by rw [HG.out, upL_no hlt h]
      have YS := Lib.hid yes; have NS := Lib.hid no
      clear yes no hit
      cases ign with
      | false =>
        have HS := Lib.hid (YS.out (by rw [hsn]; rfl)); clear hsn HM YS NS
        gi_wp2
        gi_quiet (fail)
        obtain ⟨fn, tmps, assign, body, hy, hRd⟩ := YL.out nq
        have hRd2 := hRd.mono (R' := fun e W' => ∃ bb : Bool, e = .returned (.bool bb) ∧ ((bb = true ∧ J (pre ++ [k]) W' ∧ Kept (S) (wr.drewN nq) W') ∨ (bb = false ∧ Jx (pre ++ [k]) W'))) (by
          rintro e W' (⟨he, h1, h2⟩ | ⟨he, h1⟩)
          · exact ⟨true, he, .inl ⟨rfl, h1, h2⟩⟩
          · exact ⟨false, he, .inr ⟨rfl, h1⟩⟩)
        clear hRd
        gi_wp2_with fail
        refine hRd2.mono ?_
        rintro e W3 ⟨bb, rfl, hPP⟩
        rcases hPP with ⟨rfl, hJ3, hk3⟩ | ⟨rfl, hJx3⟩
        · have iw3 := iw.kept hk3 (kept_size2 hk3 hsz)
          have c3' := iw3.c3
          clear hy hRd2
          gi_wp2
          go_roundw
          case rel => exact ⟨k + 1, pre ++ [k], by go_num, by omega, by omega, by simp; omega, HS.out, hJ3, hkp.trans hk3, kept_size2 hk3 hsz⟩
          case measure => simp [intOf]; omega
        · clear hy hRd2
          gi_wp2
          refine bodyPost_ret (results_none rfl _ _ _) rfl ?_
          exact ⟨⟨_, rfl⟩, .inr ⟨_, ⟨_, HS.out⟩, hJx3⟩⟩
      | true =>
        cases hmk : isMark F it.g with
        | false =>
          rw [hmk] at HM
          have HS := Lib.hid (YS.out (by rw [hsn, hmk]; rfl)); clear hsn YS NS hmk
          gi_wp2
          gi_quiet ((gi_at_call 53; exact quiet_inL (HM.out _)))
          obtain ⟨fn, tmps, assign, body, hy, hRd⟩ := YL.out nq
          have hRd2 := hRd.mono (R' := fun e W' => ∃ bb : Bool, e = .returned (.bool bb) ∧ ((bb = true ∧ J (pre ++ [k]) W' ∧ Kept (S) (wr.drewN nq) W') ∨ (bb = false ∧ Jx (pre ++ [k]) W'))) (by
            rintro e W' (⟨he, h1, h2⟩ | ⟨he, h1⟩)
            · exact ⟨true, he, .inl ⟨rfl, h1, h2⟩⟩
            · exact ⟨false, he, .inr ⟨rfl, h1⟩⟩)
          clear hRd
          gi_wp2_with fail
          refine hRd2.mono ?_
          rintro e W3 ⟨bb, rfl, hPP⟩
          rcases hPP with ⟨rfl, hJ3, hk3⟩ | ⟨rfl, hJx3⟩
          · have iw3 := iw.kept hk3 (kept_size2 hk3 hsz)
            have c3' := iw3.c3
            clear hy hRd2
            gi_wp2
            go_roundw
            case rel => exact ⟨k + 1, pre ++ [k], by go_num, by omega, by omega, by simp; omega, HS.out, hJ3, hkp.trans hk3, kept_size2 hk3 hsz⟩
            case measure => simp [intOf]; omega
          · clear hy hRd2
            gi_wp2
            refine bodyPost_ret (results_none rfl _ _ _) rfl ?_
            exact ⟨⟨_, rfl⟩, .inr ⟨_, ⟨_, HS.out⟩, hJx3⟩⟩
        | true =>
          rw [hmk] at HM
          have HS := Lib.hid (NS.out (by rw [hsn, hmk]; rfl)); clear hsn YS NS hmk
          gi_wp2
          gi_quiet ((gi_at_call 53; exact quiet_inL (HM.out _)))
          gi_wp2
          go_roundw
          case rel => exact ⟨k + 1, pre, by go_num, by omega, by omega, by omega, HS.out, HJ.out _ _ _ none hJs (grown_drewN _ _) (fun r e => by cases e), hkp.drewN _, hsz⟩
          case measure => simp [intOf]; omega
    · have hge : decide ((k : Int) < (rn : Int)) = false := by simp; omega
      have hge2 : decide (k < rn) = false := by simp; omega
      gi_wp2
      go_end0
      refine ⟨⟨_, rfl⟩, .inl ⟨pre, ?_, hJs⟩⟩
      rw [HG.out, upL_end (by omega)]; simp

theorem results_cells2 {fn : Func} {p q : Tmp} {t u : TypeId} (h : fn.results = #[.cell p t, .cell q u]) (tmps : Array Value) (P : Program) (w : World) :
    (results fn tmps).run P w =
      ((asAddr (tmps.getD p undef)).run P w).andThen fun a w₁ => ((loadVar t a).run P w₁).andThen fun v w₂ => ((asAddr (tmps.getD q undef)).run P w₂).andThen fun b w₃ => ((loadVar u b).run P w₃).andThen fun x w₄ => .ok (.tuple #[v, x]) w₄ := by
  simp only [results, h]
  simp [Sem.run_bind, Result.andThen]

theorem Bk.call' {w w' : World} {g t : Nat} {cs : Array Value} (h : Bk w g t cs) (hb : Below w.heap.size w w') : Bk w' g t cs := h.below hb h.lt
/-- So far: no item of the number came. B: the heap's size at the call. -/
def NS (B : Nat) (n : Int) (w : World) (pre : List Nat) (W : World) : Prop :=
  Bk W B 3 #[.int .i64 (wrap64 (n - (pre.length : Int)))] ∧ Bk W (B + 1) 3 #[.int .i64 0] ∧ Bk W (B + 1 + 1) 4 #[.bool false] ∧ Below B w W ∧ ∀ j < pre.length, n ≠ (j : Int)
/-- The item has come. -/
def NX (B : Nat) (n : Int) (w : World) (pre : List Nat) (W : World) : Prop :=
  ∃ (q : List Nat) (x : Nat), pre = q ++ [x] ∧ n = (q.length : Int) ∧ Bk W (B + 1) 3 #[.int .i64 (x : Int)] ∧ Bk W (B + 1 + 1) 4 #[.bool true] ∧ Below B w W
theorem NS.own (B K : Nat) (n : Int) (w : World) (hK : B + 1 + 1 < K) : OwnFrom K (NS B n w) := by
  intro pre X Y row h hg hr
  obtain ⟨h1, h2, h3, h4, h5⟩ := h
  exact ⟨h1.own_ hg hr, h2.own_ hg hr, h3.own_ hg hr, h4.grown hg (by have := h1.lt; omega) (fun k e => by have := (hr k e).1; omega), h5⟩
theorem NX.own (B K : Nat) (n : Int) (w : World) (hK : B + 1 + 1 < K) : OwnFrom K (NX B n w) := by
  intro pre X Y row h hg hr
  obtain ⟨q, x, h0, h1, h2, h3, h4⟩ := h
  exact ⟨q, x, h0, h1, h2.own_ hg hr, h3.own_ hg hr, h4.grown hg (by have := h2.lt; omega) (fun k e => by have := (hr k e).1; omega)⟩
theorem wrap_sub {n : Int} {j : Nat} (h1 : -9223372036854775808 ≤ n) (h2 : n ≤ 9223372036854775807) (hj : j ≤ 3000000000000) : (wrap64 (n - (j : Int)) = 0) ↔ n = (j : Int) := by unfold wrap64; omega
theorem wrap_step (n : Int) (j : Nat) : wrap64 (wrap64 (n - (j : Int)) - 1) = wrap64 (n - ((j + 1 : Nat) : Int)) := by unfold wrap64; omega

set_option maxRecDepth 100000 in
set_option maxHeartbeats 4000000 in
theorem nth_c (Bw : Nat) (f : FV) (F : Fnt) (RA : Option Addr) (rn rc : Nat) (run : List Itm) (ign : Bool) (k : Nat) (n : Int) (w : World) (hf : IsF w (lo w.heap.size) f F) (hI : RdI w (lo w.heap.size) RA rn run) (c1 : w.cell? ⟨Bw, 1, none⟩ = some (.slice f.ga f.gn f.gc)) (c9 : w.cell? ⟨Bw, 9, none⟩ = some (.slice RA rn rc)) (hrn : rn ≤ 1000000)
    (hn1 : -9223372036854775808 ≤ n) (hn2 : n ≤ 9223372036854775807) :
    Calls Try.prog 68 #[.pointer (some ⟨Bw, 0, none⟩), .bool ign, .int .i64 (k : Int), .int .i64 n] w fun e w' => e = .returned (.tuple #[.int .i64 (((nthL F ign run k n).getD 0 : Nat) : Int), .bool (nthL F ign run k n).isSome]) ∧ Below w.heap.size w w' := by
  obtain ⟨R, hR⟩ : ∃ R, R = nthL F ign run k n := ⟨_, rfl⟩
  rw [← hR]
  have HR := Lib.hid hR
  have HLR := Lib.hid hI.len
  have hlw := cell_lt c1
  dsimp only at hlw
  clear hR
  obtain ⟨B, hB⟩ : ∃ B, B = w.heap.size := ⟨_, rfl⟩
  obtain ⟨w1, hw1⟩ : ∃ w1, w1 = ((w.alloc (.cells #[.int .i64 n] 3)).alloc (.cells #[.int .i64 0] 3)).alloc (.cells #[.bool false] 4) := ⟨_, rfl⟩
  have s1 : w1.heap.size = B + 1 + 1 + 1 := by rw [hw1, hB]; simp
  have k0 : Bk w1 B 3 #[.int .i64 n] := by rw [hw1, hB]; exact ((Bk.new _ _ _).alloc _).alloc _
  have k1 : Bk w1 (B + 1) 3 #[.int .i64 0] := by
    have h := Bk.new (w.alloc (.cells #[.int .i64 n] 3)) 3 #[.int .i64 0]
    rw [World.size_alloc] at h
    rw [hw1, hB]; exact h.alloc _
  have k2 : Bk w1 (B + 1 + 1) 4 #[.bool false] := by
    have h := Bk.new ((w.alloc (.cells #[.int .i64 n] 3)).alloc (.cells #[.int .i64 0] 3)) 4 #[.bool false]
    rw [World.size_alloc, World.size_alloc] at h
    rw [hw1, hB]; exact h
  have bw : Below B w w1 := by rw [hw1, hB]; exact below_lit _ _ (below_lit _ _ (below_lit _ _ (Below.refl _ _) _) _) _
  obtain ⟨w2, hw2⟩ : ∃ w2, w2 = (((w1.alloc (.cells #[.pointer (some ⟨Bw, 0, none⟩)] 57)).alloc (.cells #[.bool ign] 4)).alloc (.cells #[.int .i64 (k : Int)] 3)).alloc (.cells #[.int .i64 1] 3) := ⟨_, rfl⟩
  have bw2 : Below w1.heap.size w1 w2 := by rw [hw2]; exact below_lit _ _ (below_lit _ _ (below_lit _ _ (below_lit _ _ (Below.refl _ _) _) _) _) _
  have hSC := Lib.hid (seen_c Bw ign (k : Int) 1 w1)
  rw [← hw2] at hSC
  have s2 : w2.heap.size = w1.heap.size + 1 + 1 + 1 + 1 := by rw [hw2]; simp
  have b0 : Below w.heap.size w w2 := by rw [← hB]; exact bw.trans (bw2.mono (by omega))
  obtain ⟨S, hS⟩ : ∃ S : Nat → Prop, S = fun b => b < w.heap.size ∨ (w.heap.size + 1 + 1 < b ∧ b < w2.heap.size) := ⟨_, rfl⟩
  have hIt : It2 w2 S (w1.heap.size + 1 + 1) w1.heap.size (w1.heap.size + 1 + 1 + 1) (w1.heap.size + 1) Bw f F RA rn rc run ign (k : Int) 1 := by
    have e2 := Bk.new w1 57 #[.pointer (some ⟨Bw, 0, none⟩)]
    have e4 := Bk.new (w1.alloc (.cells #[.pointer (some ⟨Bw, 0, none⟩)] 57)) 4 #[.bool ign]
    have e1 := Bk.new ((w1.alloc (.cells #[.pointer (some ⟨Bw, 0, none⟩)] 57)).alloc (.cells #[.bool ign] 4)) 3 #[.int .i64 (k : Int)]
    have e3 := Bk.new (((w1.alloc (.cells #[.pointer (some ⟨Bw, 0, none⟩)] 57)).alloc (.cells #[.bool ign] 4)).alloc (.cells #[.int .i64 (k : Int)] 3)) 3 #[.int .i64 1]
    simp only [World.size_alloc] at e1 e2 e3 e4
    have c2' := (((e2.alloc (.cells #[.bool ign] 4)).alloc (.cells #[.int .i64 (k : Int)] 3)).alloc (.cells #[.int .i64 1] 3)).cell 0
    have c4' := ((e4.alloc (.cells #[.int .i64 (k : Int)] 3)).alloc (.cells #[.int .i64 1] 3)).cell 0
    have c1' := (e1.alloc (.cells #[.int .i64 1] 3)).cell 0
    have c3' := e3.cell 0
    rw [← hw2] at c1' c2' c3' c4'
    exact ⟨fun b hb => by rw [hS] at hb; omega, by rw [hS]; dsimp only; omega, by rw [hS]; dsimp only; omega, by rw [hS]; dsimp only; omega, by rw [hS]; dsimp only; omega, by rw [hS]; dsimp only; omega, c1', c2', c3', c4', cell_call c1 b0, cell_call c9 b0, hI.mono (fun b hb => by rw [hS]; dsimp only; unfold lo at hb; omega) (kept_below b0), hf.mono (fun b hb => by rw [hS]; dsimp only; unfold lo at hb; omega) (kept_below b0), by omega⟩
  have hst := seenUp2_stops 4 S (w1.heap.size + 1 + 1) w1.heap.size (w1.heap.size + 1 + 1 + 1) (w1.heap.size + 1) Bw f F RA rn rc run ign k w2 (by omega) hIt
  have q0 := k0.call' bw2; have q1 := k1.call' bw2; have q2 := k2.call' bw2
  have bB2 : Below B w w2 := by rw [hB]; exact b0
  have hBd : B + 1 + 1 < w2.heap.size := by omega
  rw [s1] at hst hSC
  have HSS := Lib.hid hS; clear hS
  have HW1 := Lib.hid hw1; have HBB := Lib.hid hB
  rw [hw1] at hSC
  have HST := Lib.hid hst
  clear s1 s2 hf hI c1 c9 hIt k0 k1 k2 bw bw2 hw2 hw1 hst b0
  refine (callsIn_wide (n := 5)).1 ?_
  have hFw : ∀ k, Fence.wide.fn k := fun _ => trivial
  refine callsIn_of_wp_marks Try.func68 rfl trivial ?_ rfl
  simp only [Try.ntmps68, List.size_toArray, List.length_cons, List.length_nil, Nat.reduceAdd, Nat.reduceSub, Array.replicate_succ, Array.replicate_zero, List.push_toArray, List.append_toArray, List.nil_append, List.cons_append]
  rw [hB] at hSC
  clear hB
  gi_wp2_with (gi_at_call 39; refine (liftN hSC.out).mono ?_; rintro e w9 ⟨rfl, rfl⟩)
  rw [← HBB.out]
  refine wpIn_rangeFunc_ownH rfl (by omega) (gf := 54) (lb := #[.pointer (some ⟨B + 1 + 1 + 1 + 1 + 1, 0, none⟩), .pointer (some ⟨B + 1 + 1 + 1, 0, none⟩), .pointer (some ⟨B + 1 + 1 + 1 + 1 + 1 + 1, 0, none⟩), .pointer (some ⟨B + 1 + 1 + 1 + 1, 0, none⟩)]) rfl trivial (enters_of Try.func54 (by kernel_rfl) rfl)
    HST.out (fun h k => h.trans k)
    (fun W l o o' hl ho _ _ => fun k hk => World.putObj_heap_other (by rw [HSS.out] at hk; have := bB2.size; have := HBB.out; omega)) (Below.refl _ _) (fun _ => rfl)
    (NS B n w) (fun c pre W => c = .ret ∧ NX B n w pre W)
    (NS.own B _ n w (by omega)) (fun c pre X Y row h hg hr => ⟨h.1, NX.own B _ n w (by omega) pre X Y row h.2 hg hr⟩)
    ⟨by rw [show wrap64 (n - ((([] : List Nat).length : Nat) : Int)) = n by simp [wrap64]; omega]; exact q0, q1, q2, bB2, fun j hj => by simp at hj⟩
    (fun x a' W => a' = { tmps := #[Value.pointer (some ⟨Bw, 0, none⟩), Value.bool ign, Value.int .i64 (k : Int), Value.int .i64 n, undef, undef, undef, Value.pointer (some ⟨B, 0, none⟩), Value.pointer (some ⟨B + 1, 0, none⟩), Value.pointer (some ⟨B + 1 + 1, 0, none⟩), Value.int .i64 (x : Int), Value.pointer (some ⟨Bw, 0, none⟩), Value.bool ign, Value.int .i64 (k : Int),
        Value.func (Fn.func 54) #[] #[.pointer (some ⟨B + 1 + 1 + 1 + 1 + 1, 0, none⟩), .pointer (some ⟨B + 1 + 1 + 1, 0, none⟩), .pointer (some ⟨B + 1 + 1 + 1 + 1 + 1 + 1, 0, none⟩), .pointer (some ⟨B + 1 + 1 + 1 + 1, 0, none⟩)], Value.int .i64 (x : Int), undef, undef, undef, undef, undef], defers := [] }) ?hax ?assign ?body ?done ?stop
  case hax =>
    rintro x a' _ X Y row h hg hr
    exact h
  case assign =>
    rintro l pre x W K hi hK
    gi_wp2
    exact hK _ _ (KeepsFrom.refl _ _) (Kept.refl _ _) hi rfl
  case body =>
    rintro l pre x a' W hl _ ⟨h0, h1, h2, h3, h4⟩ rfl hlen
    have z0 := h0.cell 0; have z1 := h1.cell 0; have z2 := h2.cell 0
    simp only [List.getElem?_toArray, List.getElem?_cons_zero] at z0 z1 z2
    have f0 := h0.frozen 0; have f1 := h1.frozen 0; have f2 := h2.frozen 0
    by_cases hj : n = (pre.length : Int)
    · have e0 : (wrap64 (n - (pre.length : Int)) == 0) = true := by rw [(wrap_sub hn1 hn2 (by omega)).2 hj]; rfl
      have HJ := Lib.hid hj; clear hj
      generalize wrap64 (n - (pre.length : Int)) = v at *
      gi_wp2
      have k1 : Bk ((W.setCell ⟨B + 1, 0, none⟩ (.int .i64 (x : Int))).setCell ⟨B + 1 + 1, 0, none⟩ (.bool true)) (B + 1) 3 #[.int .i64 (x : Int)] := (h1.set_ 0 _).far (by dsimp only; omega) _
      have k2 : Bk ((W.setCell ⟨B + 1, 0, none⟩ (.int .i64 (x : Int))).setCell ⟨B + 1 + 1, 0, none⟩ (.bool true)) (B + 1 + 1) 4 #[.bool true] := (h2.far (p := ⟨B + 1, 0, none⟩) (by dsimp only; omega) _).set_ 0 _
      exact ⟨((KeepsOthers.setCell _ _ _).trans (KeepsOthers.setCell _ _ _)).from _, rfl, pre, x, rfl, HJ.out, k1, k2, (h3.setCell (p := ⟨B + 1, 0, none⟩) (by dsimp only; omega) _).setCell (p := ⟨B + 1 + 1, 0, none⟩) (by dsimp only; omega) _⟩
    · have e0 : (wrap64 (n - (pre.length : Int)) == 0) = false := by
        have := mt (wrap_sub hn1 hn2 (by omega)).1 hj
        simpa using this
      have HST1 := Lib.hid (wrap_step n pre.length)
      have HJ := Lib.hid hj; clear hj
      generalize wrap64 (n - (pre.length : Int)) = v at *
      gi_wp2
      refine ⟨(KeepsOthers.setCell _ _ _).from _, fun b hb => ?_, ?_⟩
      · rw [HSS.out] at hb
        exact Below.heap_setCell _ _ _ _ (by dsimp only; have := HBB.out; omega)
      · refine ⟨?_, h1.far (p := ⟨B, 0, none⟩) (by dsimp only; omega) _, h2.far (p := ⟨B, 0, none⟩) (by dsimp only; omega) _, h3.setCell (p := ⟨B, 0, none⟩) (by dsimp only; omega) _, fun j hj => ?_⟩
        · rw [List.length_append, List.length_singleton, ← HST1.out]
          exact h0.set_ 0 _
        · rw [List.length_append, List.length_singleton] at hj
          by_cases hjp : j = pre.length
          · rw [hjp]; exact HJ.out
          · exact h4 j (by omega)
  case done =>
    rintro D ys W hD rfl ⟨h0, h1, h2, h3, h4⟩ hK
    have z1 := h1.cell 0; have z2 := h2.cell 0
    simp only [List.getElem?_toArray, List.getElem?_cons_zero] at z1 z2
    have f1 := h1.frozen 0; have f2 := h2.frozen 0
    have HN4 := Lib.hid h4
    clear h4
    gi_wp2
    have k1 : Bk ((W.setCell ⟨B + 1, 0, none⟩ (.int .i64 0)).setCell ⟨B + 1 + 1, 0, none⟩ (.bool false)) (B + 1) 3 #[.int .i64 0] := (h1.set_ 0 _).far (by dsimp only; omega) _
    have k2 : Bk ((W.setCell ⟨B + 1, 0, none⟩ (.int .i64 0)).setCell ⟨B + 1 + 1, 0, none⟩ (.bool false)) (B + 1 + 1) 4 #[.bool false] := (h2.far (p := ⟨B + 1, 0, none⟩) (by dsimp only; omega) _).set_ 0 _
    have kb := (h3.setCell (p := ⟨B + 1, 0, none⟩) (by dsimp only; omega) (.int .i64 0)).setCell (p := ⟨B + 1 + 1, 0, none⟩) (by dsimp only; omega) (.bool false)
    have hK2 := (((KeepsOthers.setCell W ⟨B + 1, 0, none⟩ (.int .i64 0)).trans (KeepsOthers.setCell _ ⟨B + 1 + 1, 0, none⟩ (.bool false))).same D _ hK rfl)
    generalize (W.setCell ⟨B + 1, 0, none⟩ (.int .i64 0)).setCell ⟨B + 1 + 1, 0, none⟩ (.bool false) = W2 at *
    refine ⟨by simp, .inl ⟨_, _, rfl, run_takeDeferred hK2, ?_⟩⟩
    have hgp := grownBy_putObj' W2 D (.deferred none)
    have hrr : ∀ r, some D = some r → w9.heap.size ≤ r ∧ ∃ o : Obj, W2.heap[r]? = some o ∧ o.isCells = false := fun r e => by cases e; exact ⟨hD, _, hK2, rfl⟩
    have y1 := (k1.own_ hgp hrr).cell 0
    have y2 := (k2.own_ hgp hrr).cell 0
    simp only [List.getElem?_toArray, List.getElem?_cons_zero] at y1 y2
    have hr : R = none := by
      rw [HR.out]; unfold nthL
      split
      · rfl
      · rename_i hn0
        rw [HLR.out]
        refine List.getElem?_eq_none ?_
        refine Classical.byContradiction fun hlt => HN4.out n.toNat (by omega) (by omega)
    subst hr
    refine ⟨_, ?_, rfl, ?_⟩
    · rw [results_cells2 rfl]
      go_simp
    · rw [← HBB.out]; exact kb.grown hgp (by have := k1.lt; omega) (fun k e => by have := (hrr k e).1; omega)
  case stop =>
    rintro D cc pre W hD hSp ⟨rfl, q, x, hpre, hnq, h1, h2, h3⟩ hK
    have z1 := h1.cell 0; have z2 := h2.cell 0
    simp only [List.getElem?_toArray, List.getElem?_cons_zero] at z1 z2
    have HH := Lib.hid hnq; have HP := Lib.hid hpre
    clear hnq
    gi_wp2
    refine ⟨by simp, .inl ⟨_, _, rfl, run_takeDeferred hK, ?_⟩⟩
    have hgp := grownBy_putObj' W D (.deferred none)
    have hrr : ∀ r, some D = some r → w9.heap.size ≤ r ∧ ∃ o : Obj, W.heap[r]? = some o ∧ o.isCells = false := fun r e => by cases e; exact ⟨hD, _, hK, rfl⟩
    have y1 := (h1.own_ hgp hrr).cell 0
    have y2 := (h2.own_ hgp hrr).cell 0
    simp only [List.getElem?_toArray, List.getElem?_cons_zero] at y1 y2
    have hr : R = some x := by
      obtain ⟨t, ht⟩ := hSp
      rw [HR.out]; unfold nthL
      rw [HLR.out, ht, HP.out, HH.out, if_neg (by omega), Int.toNat_natCast]
      simp
    subst hr
    refine ⟨_, ?_, rfl, ?_⟩
    · rw [results_cells2 rfl]
      go_simp
    · rw [← HBB.out]; exact h3.grown hgp (by have := h1.lt; omega) (fun k e => by have := (hrr k e).1; omega)

end Go.Proofs.Ytkoocipagndclaa
