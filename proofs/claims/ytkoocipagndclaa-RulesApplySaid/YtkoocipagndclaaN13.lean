/- Words for the laws of chapter 11: what they find first; small fonts and runs. -/
import Derived.Test.YtkoocipagndclaaE4
import Derived.Test.YtkoocipagndclaaQ6
namespace Go.Proofs.Ytkoocipagndclaa
open Go.RowKit Go.Shelf

/-- The cells of an Ask. -/
abbrev askC (f : FV) (n : Int) (RA : Option Addr) (rn rc : Nat) (k : Int) (FA : Option Addr) (fn fc : Nat) : Array Value := #[.int .i64 f.u0, .slice f.ga f.gn f.gc, .slice f.ca f.cn f.cc, .slice f.la f.ln f.lc, .slice f.a4 f.n4 f.c4, .slice f.a5 f.n5 f.c5, .slice f.a6 f.n6 f.c6, .slice f.a7 f.n7 f.c7, .slice f.a8 f.n8 f.c8, .int .i64 n, .slice RA rn rc, .int .i64 k, .slice FA fn fc]
structure AS (w W : World) (bf : Nat) (f : FV) (F : Fnt) (n : Int) (RA : Option Addr) (rn rc : Nat) (run : List Itm) (k : Int) (FA : Option Addr) (fn fc : Nat) (forms : List Int) : Prop where
  kf : Bk W bf 34 (askC f n RA rn rc k FA fn fc)
  hf : IsF W (lo W.heap.size) f F
  hI : RdI W (lo W.heap.size) RA rn run
  hF : Rd W (lo W.heap.size) FA fn forms
  bw : Below w.heap.size w W
section
variable {w W W' : World} {bf : Nat} {f : FV} {F : Fnt} {n : Int} {RA : Option Addr} {rn rc : Nat} {run : List Itm} {k : Int} {FA : Option Addr} {fn fc : Nat} {forms : List Int}
theorem AS.call (h : AS w W bf f F n RA rn rc run k FA fn fc forms) (b : Below W.heap.size W W') : AS w W' bf f F n RA rn rc run k FA fn fc forms := ⟨h.kf.call b, h.hf.call b, h.hI.call b, h.hF.call b, below_call h.bw b⟩
theorem AS.new (hf : IsF w (lo w.heap.size) f F) (hI : RdI w (lo w.heap.size) RA rn run) (hF : Rd w (lo w.heap.size) FA fn forms) : AS w (w.alloc (.cells (askC f n RA rn rc k FA fn fc) 34)) w.heap.size f F n RA rn rc run k FA fn fc forms :=
  have b : Below w.heap.size w (w.alloc (.cells (askC f n RA rn rc k FA fn fc) 34)) := (Below.refl _ _).alloc (Nat.le_refl _) _
  ⟨Bk.new _ _ _, hf.call b, hI.call b, hF.call b, b⟩
theorem AS.cells (h : AS w W bf f F n RA rn rc run k FA fn fc forms) : W.cell? ⟨bf, 0, none⟩ = some (.int .i64 f.u0) ∧ W.cell? ⟨bf, 1, none⟩ = some (.slice f.ga f.gn f.gc) ∧ W.cell? ⟨bf, 2, none⟩ = some (.slice f.ca f.cn f.cc) ∧ W.cell? ⟨bf, 3, none⟩ = some (.slice f.la f.ln f.lc) ∧ W.cell? ⟨bf, 4, none⟩ = some (.slice f.a4 f.n4 f.c4) ∧ W.cell? ⟨bf, 5, none⟩ = some (.slice f.a5 f.n5 f.c5) ∧ W.cell? ⟨bf, 6, none⟩ = some (.slice f.a6 f.n6 f.c6) ∧ W.cell? ⟨bf, 7, none⟩ = some (.slice f.a7 f.n7 f.c7) ∧ W.cell? ⟨bf, 8, none⟩ = some (.slice f.a8 f.n8 f.c8) ∧ W.cell? ⟨bf, 9, none⟩ = some (.int .i64 n) ∧ W.cell? ⟨bf, 10, none⟩ = some (.slice RA rn rc) ∧ W.cell? ⟨bf, 11, none⟩ = some (.int .i64 k) ∧ W.cell? ⟨bf, 12, none⟩ = some (.slice FA fn fc) := ⟨h.kf.cell 0, h.kf.cell 1, h.kf.cell 2, h.kf.cell 3, h.kf.cell 4, h.kf.cell 5, h.kf.cell 6, h.kf.cell 7, h.kf.cell 8, h.kf.cell 9, h.kf.cell 10, h.kf.cell 11, h.kf.cell 12⟩
end
/-- What is not too big. -/
structure Sm11 (F : Fnt) (run : List Itm) : Prop where
  run : run.length ≤ 300
  lks : F.lks.length ≤ 40
  sm : SmF F
  so : ∀ lk ∈ F.lks, ∀ r ∈ lk.rules, r.out.length ≤ 8
  rl : ∀ lk ∈ F.lks, lk.rules.length ≤ 12
theorem Sm11.o {F : Fnt} {run : List Itm} (h : Sm11 F run) : SmO F := fun lk hlk r hr => by have := h.so lk hlk r hr; omega
theorem small11 {F : Fnt} {run : List Itm} (h : big11 F run = false) : Sm11 F run := by
  unfold big11 at h
  simp only [Bool.or_eq_false_iff, decide_eq_false_iff_not, List.any_eq_false] at h
  obtain ⟨h1, h2, h3⟩ := h
  have key : ∀ lk ∈ F.lks, lk.rules.length ≤ 12 ∧ ∀ r ∈ lk.rules, bigR r = false := fun lk hlk => by
    have h5 := h3 lk hlk
    unfold bigLk at h5
    simp only [Bool.or_eq_true, decide_eq_true_eq, not_or, Bool.not_eq_true, List.any_eq_false] at h5
    exact ⟨by omega, fun r hr => h5.2 r hr⟩
  refine ⟨by omega, by omega, fun lk hlk => ⟨by have := (key lk hlk).1; omega, fun r hr => ?_⟩, fun lk hlk r hr => ?_, fun lk hlk => (key lk hlk).1⟩
  · have h6 := (key lk hlk).2 r hr
    unfold bigR wideB at h6
    simp only [Bool.or_eq_false_iff, decide_eq_false_iff_not, List.any_eq_false, decide_eq_true_eq] at h6
    obtain ⟨q1, q2, q3, _, _, q6, q7, q8⟩ := h6
    exact ⟨⟨by omega, fun s hs => by have := q8 s hs; omega⟩, ⟨by omega, fun s hs => by have := q6 s hs; omega⟩, ⟨by omega, fun s hs => by have := q7 s hs; omega⟩⟩
  · have h6 := (key lk hlk).2 r hr
    unfold bigR at h6
    simp only [Bool.or_eq_false_iff, decide_eq_false_iff_not] at h6
    omega
/-- What a law is to tell. -/
def TP (w : World) (e : Ending) (w' : World) : Prop := e = .returned (.bool true) ∧ Below w.heap.size w w'
theorem sol_lo {w : World} {A : Option Addr} {n : Nat} {xs : List Int} (h : Rd w (Sol w) A n xs) : Rd w (lo w.heap.size) A n xs := h.mono (fun b hb => by obtain ⟨cs, t, fr, h, _⟩ := hb; exact (Array.getElem?_eq_some_iff.1 h).1) (Kept.refl _ _)


set_option maxRecDepth 100000 in
set_option maxHeartbeats 4000000 in
theorem rulesApply_walk (f : FV) (F : Fnt) (n : Int) (RA : Option Addr) (rn rc : Nat) (run : List Itm) (k : Int) (FA : Option Addr) (fn fc : Nat) (forms : List Int) (w : World) (hf : IsF w (lo w.heap.size) f F) (hI : RdI w (lo w.heap.size) RA rn run) (hd : Hd rn rc) (hF : Rd w (lo w.heap.size) FA fn forms) (hfd : Hd fn fc) :
    Calls Try.prog 4 #[.agg (askC f n RA rn rc k FA fn fc)] w (TP w) := by
  have hrnM : rn ≤ 9223372036854775807 := Nat.le_trans hd.1 hd.2
  have hfnM : fn ≤ 9223372036854775807 := Nat.le_trans hfd.1 hfd.2
  have hs_0 := AS.new (n := n) (k := k) (rc := rc) (fc := fc) hf hI hF
  unfold askC at hs_0 ⊢
  go_enter Try.func4, Try.ntmps4
  go_upto_region 1 with fail
  generalize w.alloc (.cells #[.int .i64 f.u0, .slice f.ga f.gn f.gc, .slice f.ca f.cn f.cc, .slice f.la f.ln f.lc, .slice f.a4 f.n4 f.c4, .slice f.a5 f.n5 f.c5, .slice f.a6 f.n6 f.c6, .slice f.a7 f.n7 f.c7, .slice f.a8 f.n8 f.c8, .int .i64 n, .slice RA rn rc, .int .i64 k, .slice FA fn fc] 34) = w0 at hs_0 ⊢
  generalize hbf : w.heap.size = bf at hs_0 ⊢
  clear hf hI hF
  have HC := Lib.hid (big11_c f F RA rn rc run w0 hs_0.hf hs_0.hI hrnM)
  unfold FV.cells at HC
  obtain ⟨y0, y1, y2, y3, y4, y5, y6, y7, y8, y9, y10, y11, y12⟩ := hs_0.cells
  go_wp2_with fail
  refine HC.out.mono ?_
  rintro e w1 ⟨rfl, b1⟩
  clear HC y0 y1 y2 y3 y4 y5 y6 y7 y8 y9 y10 y11 y12
  have hs_1 := hs_0.call b1
  clear hs_0 b1
  cases hbig : big11 F run with
  | true =>
    go_wp2
    go_ret
    exact ⟨rfl, hs_1.bw⟩
  | false =>
    have hsm := small11 hbig
    have hrn : rn ≤ 300 := by have := hs_1.hI.len; have := hsm.run; omega
    have HSM := Lib.hid hsm
    have HRL := Lib.hid hs_1.hI.len
    clear hbig hsm
    obtain ⟨y0, y1, y2, y3, y4, y5, y6, y7, y8, y9, y10, y11, y12⟩ := hs_1.cells
    go_upto_region 4 with fail
    clear y0 y1 y2 y3 y4 y5 y6 y7 y8 y9 y10 y11 y12
    have bE : Below w1.heap.size w1 (w1.alloc (.cells #[] 51)) := (Below.refl _ _).alloc (Nat.le_refl _) _
    have oE := own_empty w1 51 6
    have hsE := hs_1.call bE
    have HL := Lib.hid (itc_lenN' hsE.hI.len)
    have HR := Lib.hid (news_itc hsE.hI)
    obtain ⟨y0, y1, y2, y3, y4, y5, y6, y7, y8, y9, y10, y11, y12⟩ := hsE.cells
    go_upto_region 5 with (at_builtin; refine appP elt_item rfl _ _ rfl _ w1.heap.size _ _ _ (itc []) _ _ _ (itc run) (by rfl) (by rfl) oE HL.out HR.out (itc_one _) (by omega) bE.size ?_; intro A2 c2 w2 o2 hg hb hat)
    rw [Nat.zero_add] at o2
    replace o2 : Ow 51 6 w2 w1.heap.size A2 rn c2 (itc run) := o2
    have b2 := bE.trans hb
    have hs2 := hs_1.call b2
    have q2 := o2.rdI
    clear y0 y1 y2 y3 y4 y5 y6 y7 y8 y9 y10 y11 y12 hg hb hat bE oE hsE HL HR b2 o2 hs_1
    have HC := Lib.hid (apply_all f F n RA rn rc run FA fn fc forms w2 hs2.hf hs2.hI hs2.hF hfnM (by have := HRL.out; omega) HSM.out.sm HSM.out.o)
    unfold FV.cells at HC
    obtain ⟨y0, y1, y2, y3, y4, y5, y6, y7, y8, y9, y10, y11, y12⟩ := hs2.cells
    go_wp2_with fail
    refine HC.out.mono ?_
    rintro e w3 ⟨A3, n3, c3, rfl, o3, b3⟩
    clear HC y0 y1 y2 y3 y4 y5 y6 y7 y8 y9 y10 y11 y12
    have hs3 := hs2.call b3
    replace q2 := q2.call b3
    have q3 := o3.rdI
    have HN3 := Lib.hid (show n3 ≤ 500 by have h1 := q3.len; have h2 := apply_len w64 F n run forms; have := HRL.out; omega)
    clear o3 b3 hs2
    go_wp2_with fail
    refine (ruled_c _).mono ?_
    rintro e w4 ⟨rfl, b4⟩
    have hs4 := hs3.call b4
    replace q2 := q2.call b4
    replace q3 := q3.call b4
    clear b4 hs3
    have HC := Lib.hid (qApply_all f F n RA rn rc run FA fn fc forms w4 hs4.hf hs4.hI hs4.hF (by omega) hfnM HSM.out.sm HSM.out.o)
    unfold FV.cells at HC
    obtain ⟨y0, y1, y2, y3, y4, y5, y6, y7, y8, y9, y10, y11, y12⟩ := hs4.cells
    go_wp2_with fail
    refine HC.out.mono ?_
    rintro e w5 ⟨A5, n5, c5, rfl, q5, hd5, b5⟩
    clear HC y0 y1 y2 y3 y4 y5 y6 y7 y8 y9 y10 y11 y12
    have hs5 := hs4.call b5
    replace q2 := q2.call b5
    replace q3 := q3.call b5
    clear hd5
    have HN5 := Lib.hid (show n5 ≤ 500 by have h1 := q5.len; have h2 := apply_len w64 F n run forms; have := HRL.out; omega)
    clear b5 hs4
    have HCS := Lib.hid (same_c A3 A5 n3 n5 c3 c5 _ _ w5 q3 q5 (by have := HN3.out; omega) (by have := HN5.out; omega))
    rw [show decide (applyL w64 F n run forms = applyL w64 F n run forms) = true by simp] at HCS
    obtain ⟨y0, y1, y2, y3, y4, y5, y6, y7, y8, y9, y10, y11, y12⟩ := hs5.cells
    go_wp2_with fail
    refine HCS.out.mono ?_
    rintro e w6 ⟨rfl, b6⟩
    clear HCS y0 y1 y2 y3 y4 y5 y6 y7 y8 y9 y10 y11 y12 q3 q5
    have hs6 := hs5.call b6
    replace q2 := q2.call b6
    clear b6 hs5
    have HCS := Lib.hid (same_c RA A2 rn rn rc c2 _ _ w6 hs6.hI q2 (by omega) (by omega))
    rw [show decide (run = run) = true by simp] at HCS
    obtain ⟨y0, y1, y2, y3, y4, y5, y6, y7, y8, y9, y10, y11, y12⟩ := hs6.cells
    go_wp2_with fail
    refine HCS.out.mono ?_
    rintro e w7 ⟨rfl, b7⟩
    go_wp2
    go_ret
    exact ⟨rfl, below_call hs6.bw b7⟩

end Go.Proofs.Ytkoocipagndclaa
