/- Walks: the document's Match. -/
import Derived.Test.YtkoocipagndclaaR8
namespace Go.Proofs.Ytkoocipagndclaa
open Go.RowKit Go.Shelf

def matchQ (F : Fnt) (n : Int) (run : List Itm) (k : Int) (forms : List Int) : Option (Nat × List Nat) := match lkAt F n with | none => none | some lk => matchL F lk run k forms
/-- What the document's Match leaves. -/
def QPost (w : World) (ans : Option (Nat × List Nat)) (e : Ending) (w' : World) : Prop :=
  match ans with
  | none => e = .returned (.tuple #[.int .i64 (-1), .slice none 0 0]) ∧ Below w.heap.size w w'
  | some (n, ps) => ∃ A m c, e = .returned (.tuple #[.int .i64 (n : Int), .slice A m c]) ∧ Ow 3 1 w' w.heap.size A m c (ic (natI ps)) ∧ Below w.heap.size w w'
/-- The font and the lookup in variables, and the run. -/
structure MS (w W : World) (bf bl : Nat) (f : FV) (F : Fnt) (lk : Lk) (LA : Option Addr) (ln lc : Nat) (RA : Option Addr) (rn : Nat) (run : List Itm) : Prop where
  kf : Bk W bf 31 f.cells
  kl : Bk W bl 44 (lkc lk LA ln lc)
  hf : IsF W (lo W.heap.size) f F
  hI : RdI W (lo W.heap.size) RA rn run
  hR : RdR W (lo W.heap.size) LA ln lk.rules
  bw : Below w.heap.size w W
theorem MS.call {w W W' : World} {bf bl : Nat} {f : FV} {F : Fnt} {lk : Lk} {LA : Option Addr} {ln lc : Nat} {RA : Option Addr} {rn : Nat} {run : List Itm} (h : MS w W bf bl f F lk LA ln lc RA rn run) (b : Below W.heap.size W W') : MS w W' bf bl f F lk LA ln lc RA rn run :=
  ⟨h.kf.call b, h.kl.call b, h.hf.call b, h.hI.call b, h.hR.call b, below_call h.bw b⟩
theorem beg_parts {F : Fnt} {n : Int} {run : List Itm} {k : Int} {forms : List Int} (h : begQ F n run k forms = true) : ∃ (q : Nat) (lk : Lk) (j : Nat), n = (q : Int) ∧ F.lks[q]? = some lk ∧ k = (j : Int) ∧ j < run.length ∧ seenB F lk.ign run j = true ∧ begL F lk.ign run (j : Int) forms = true := by
  unfold begQ at h
  cases hl : lkAt F n with
  | none => rw [hl] at h; cases h
  | some lk =>
    rw [hl] at h
    dsimp only at h
    have h' := h
    unfold begL at h
    simp only [Bool.and_eq_true, decide_eq_true_eq] at h
    obtain ⟨⟨⟨h1, h2⟩, h3⟩, _⟩ := h
    have hn : ¬ n < 0 := fun hn => by unfold lkAt at hl; rw [if_pos hn] at hl; cases hl
    unfold lkAt at hl
    rw [if_neg hn] at hl
    have e : k = (k.toNat : Int) := by omega
    refine ⟨n.toNat, lk, k.toNat, by omega, hl, e, by omega, h3, ?_⟩
    rw [← e]; exact h'
theorem matchQ_no {F : Fnt} {n : Int} {run : List Itm} {k : Int} {forms : List Int} (h : begQ F n run k forms = false) : matchQ F n run k forms = none := by
  unfold matchQ; unfold begQ at h
  cases hl : lkAt F n with
  | none => rfl
  | some lk => rw [hl] at h; dsimp only at h ⊢; unfold matchL; rw [if_neg (by rw [h]; simp)]

set_option maxRecDepth 100000 in
set_option maxHeartbeats 4000000 in
theorem qMatch_c (f : FV) (F : Fnt) (n : Int) (RA : Option Addr) (rn rc : Nat) (run : List Itm) (at' : Int) (FA : Option Addr) (fn fc : Nat) (forms : List Int) (w : World)
    (hf : IsF w (lo w.heap.size) f F) (hI : RdI w (lo w.heap.size) RA rn run) (hF : Rd w (lo w.heap.size) FA fn forms) (hrn : rn ≤ 1000000) (hfn : fn ≤ 9223372036854775807) (hsm : SmF F) :
    Calls Try.prog 16 #[.agg f.cells, .int .i64 n, .slice RA rn rc, .int .i64 at', .slice FA fn fc] w (QPost w (matchQ F n run at' forms)) := by
  have hs0 := LS'.new hf hI
  have HC := Lib.hid (qbegins_c f F n RA rn rc run at' FA fn fc forms _ hs0.hf hs0.hI (hF.call hs0.bw) hrn hfn)
  have HSM := Lib.hid hsm
  unfold FV.cells at hs0 HC ⊢
  obtain ⟨R, hR⟩ : ∃ R, R = matchQ F n run at' forms := ⟨_, rfl⟩
  rw [← hR]
  have HR := Lib.hid hR
  clear hR hsm
  go_enter Try.func16, Try.ntmps16
  go_wp2_with fail
  generalize w.alloc (.cells #[.int .i64 f.u0, .slice f.ga f.gn f.gc, .slice f.ca f.cn f.cc, .slice f.la f.ln f.lc, .slice f.a4 f.n4 f.c4, .slice f.a5 f.n5 f.c5, .slice f.a6 f.n6 f.c6, .slice f.a7 f.n7 f.c7, .slice f.a8 f.n8 f.c8] 31) = w0 at hs0 HC ⊢
  generalize hbf : w.heap.size = bf at hs0 ⊢
  clear hf hI hF hbf
  refine HC.out.mono ?_
  rintro e w1 ⟨rfl, b1⟩
  clear HC
  have hs1 := hs0.call b1
  clear hs0 b1
  cases hb : begQ F n run at' forms with
  | false =>
    have HRES := Lib.hid (show R = none by rw [HR.out, matchQ_no hb])
    clear hb HR
    go_wp2
    go_ret2
    rw [HRES.out]
    exact ⟨rfl, hs1.bw⟩
  | true =>
    obtain ⟨q, lk, k, rfl, hlk, rfl, hkl, hsb, hbl⟩ := beg_parts hb
    have hR2 : R = match firstR (fun r => fits run r (foreL F lk.ign run k) (backL F lk.ign run k)) lk.rules 0 with | some (n, r) => some (n, (foreL F lk.ign run k).take r.inn.length) | none => none := by
      rw [HR.out]; unfold matchQ; rw [lkAt_nat hlk]; dsimp only; unfold matchL; rw [if_pos hbl, Int.toNat_natCast]; rfl
    have HR2 := Lib.hid hR2
    have hln := hs1.hf.2.1.len
    have hld := hs1.hf.2.2.2
    have hlnM : f.ln ≤ 9223372036854775807 := Nat.le_trans hld.1 hld.2
    obtain ⟨lb, lo', hla, _, hcl⟩ := hs1.hf.2.1.pos (by have := (List.getElem?_eq_some_iff.1 hlk).1; omega)
    obtain ⟨cs, ⟨LA, ln, lc, rfl, hRR, hRd⟩, hccl⟩ := hcl q lk hlk
    have g0 := hccl 0 _ rfl
    have g1 := hccl 1 _ rfl
    have g2 := hccl 2 _ rfl
    rw [Nat.add_zero] at g0
    have qz : (0 : Int) ≤ (q : Int) := by omega
    have qn : (q : Int) < (f.ln : Int) := by have := (List.getElem?_eq_some_iff.1 hlk).1; omega
    have hlM : ln ≤ 9223372036854775807 := Nat.le_trans hRd.1 hRd.2
    have hkr : k < rn := by have := hs1.hI.len; omega
    have HSL := Lib.hid (HSM.out lk (List.mem_of_getElem? hlk))
    have y3 := (font_cells hs1.kf).2.2.2.1
    rw [hla] at y3
    have HSB := Lib.hid hsb
    clear hR2 HR hb hlk hkl hsb hbl hln hld hla hcl hccl HSM
    go_upto_region 5 with fail
    have bA : Below w1.heap.size w1 (w1.alloc (.cells #[.int .i64 lk.kind, .bool lk.ign, .slice LA ln lc] 44)) := (Below.refl _ _).alloc (Nat.le_refl _) _
    have hsA := hs1.call bA
    have hs2 : MS w (w1.alloc (.cells #[.int .i64 lk.kind, .bool lk.ign, .slice LA ln lc] 44)) bf w1.heap.size f F lk LA ln lc RA rn run := ⟨hsA.kf, Bk.new _ _ _, hsA.hf, hsA.hI, hRR.call bA, hsA.bw⟩
    clear hs1 hsA bA y3 g0 g1 g2 hRR
    generalize w1.alloc (.cells #[.int .i64 lk.kind, .bool lk.ign, .slice LA ln lc] 44) = w2 at hs2 ⊢
    generalize w1.heap.size = bl at hs2 ⊢
    go_loopw [13] (fun i wr => ∃ j : Nat, j ≤ ln ∧ i = .int .i64 j ∧ (∀ (p : Nat) (r : Rul), p < j → lk.rules[p]? = some r → fits run r (foreL F lk.ign run k) (backL F lk.ign run k) = false) ∧ MS w wr bf bl f F lk LA ln lc RA rn run) (fun i _ => ln - (intOf i).toNat)
    case atStart => exact ⟨0, by omega, rfl, fun p r hp => by omega, hs2⟩
    case round =>
      obtain ⟨j, hj, rfl, hno, hsr⟩ := hrel
      have HNO := Lib.hid hno; clear hno hs2
      have LR := Lib.hid hsr.hR.len
      obtain ⟨l0, l1, l2⟩ := look_cells hsr.kl
      by_cases hlt : j < ln
      · obtain ⟨r, hr⟩ := at_some lk.rules j (by have := LR.out; omega)
        obtain ⟨mb, mo, rfl, _, hc⟩ := hsr.hR.pos (by omega)
        obtain ⟨cs, ⟨A1, n1, c1, A2, n2, c2, A3, n3, c3, A4, n4, c4, A5, n5, c5, rfl, r1, r2, r3, _, _, d1, d2, d3, _⟩, hcc⟩ := hc j r hr
        have g0 := hcc 0 _ rfl
        have g1 := hcc 1 _ rfl
        have g2 := hcc 2 _ rfl
        have g3 := hcc 3 _ rfl
        have g4 := hcc 4 _ rfl
        have g5 := hcc 5 _ rfl
        rw [Nat.add_zero] at g0
        obtain ⟨s1, s2, s3⟩ := HSL.out.2 r (List.mem_of_getElem? hr)
        have hn1 : n1 ≤ 1000000 := by have := r1.len; have := s1.1; omega
        have hn2 : n2 ≤ 1000000 := by have := r2.len; have := s2.1; omega
        have hn3 : n3 ≤ 1000000 := by have := r3.len; have := s3.1; omega
        have HCM := Lib.hid fun (W : World) (h1 : IsF W (lo W.heap.size) f F) (h2 : RdI W (lo W.heap.size) RA rn run) (h3 : RdV W (lo W.heap.size) A1 n1 r.back) (h4 : RdV W (lo W.heap.size) A2 n2 r.inn) (h5 : RdV W (lo W.heap.size) A3 n3 r.ahead) => qmatches_c f F lk (some ⟨mb, mo, none⟩) ln lc r A1 n1 c1 A2 n2 c2 A3 n3 c3 A4 n4 c4 A5 n5 c5 RA rn rc run k W h1 h2 h3 h4 h5 hrn hn1 hn2 hn3 hkr HSB.out
        unfold FV.cells lkc rlc at HCM
        have HRr := Lib.hid hr
        have jz : (0 : Int) ≤ (j : Int) := by omega
        have jn : (j : Int) < (ln : Int) := by omega
        obtain ⟨y0, y1, y2, y3, y4, y5, y6, y7, y8⟩ := font_cells hsr.kf
        have HS := Lib.hid fun (W : World) (b : Below wr.heap.size wr W) => (show W.cell? ⟨bf, 0, none⟩ = some (.int .i64 f.u0) ∧ W.cell? ⟨bf, 1, none⟩ = some (.slice f.ga f.gn f.gc) ∧ W.cell? ⟨bf, 2, none⟩ = some (.slice f.ca f.cn f.cc) ∧ W.cell? ⟨bf, 3, none⟩ = some (.slice f.la f.ln f.lc) ∧ W.cell? ⟨bf, 4, none⟩ = some (.slice f.a4 f.n4 f.c4) ∧ W.cell? ⟨bf, 5, none⟩ = some (.slice f.a5 f.n5 f.c5) ∧ W.cell? ⟨bf, 6, none⟩ = some (.slice f.a6 f.n6 f.c6) ∧ W.cell? ⟨bf, 7, none⟩ = some (.slice f.a7 f.n7 f.c7) ∧ W.cell? ⟨bf, 8, none⟩ = some (.slice f.a8 f.n8 f.c8) ∧ W.cell? ⟨bl, 0, none⟩ = some (.int .i64 lk.kind) ∧ W.cell? ⟨bl, 1, none⟩ = some (.bool lk.ign) ∧ W.cell? ⟨bl, 2, none⟩ = some (.slice (some ⟨mb, mo, none⟩) ln lc) ∧ W.cell? ⟨mb, mo + j * 6, none⟩ = some (.slice A1 n1 c1) ∧ W.cell? ⟨mb, mo + j * 6 + 1, none⟩ = some (.slice A2 n2 c2) ∧ W.cell? ⟨mb, mo + j * 6 + 2, none⟩ = some (.slice A3 n3 c3) ∧ W.cell? ⟨mb, mo + j * 6 + 3, none⟩ = some (.slice A4 n4 c4) ∧ W.cell? ⟨mb, mo + j * 6 + 4, none⟩ = some (.slice A5 n5 c5) ∧ W.cell? ⟨mb, mo + j * 6 + 5, none⟩ = some (.int .i64 r.x) from by
          obtain ⟨z0, z1, z2, z3, z4, z5, z6, z7, z8⟩ := font_cells (hsr.call b).kf
          obtain ⟨l0, l1, l2⟩ := look_cells (hsr.call b).kl
          exact And.intro z0 (And.intro z1 (And.intro z2 (And.intro z3 (And.intro z4 (And.intro z5 (And.intro z6 (And.intro z7 (And.intro z8 (And.intro l0 (And.intro l1 (And.intro l2 (And.intro (cell_call g0 b) (And.intro (cell_call g1 b) (And.intro (cell_call g2 b) (And.intro (cell_call g3 b) (And.intro (cell_call g4 b) ((cell_call g5 b)))))))))))))))))))
        clear hc hcc hr s1 s2 s3 d1 d2 d3
        go_wp2
        go_region_held3 (fun w' => w'.cell? ⟨bf, 0, none⟩ = some (.int .i64 f.u0) ∧ w'.cell? ⟨bf, 1, none⟩ = some (.slice f.ga f.gn f.gc) ∧ w'.cell? ⟨bf, 2, none⟩ = some (.slice f.ca f.cn f.cc) ∧ w'.cell? ⟨bf, 3, none⟩ = some (.slice f.la f.ln f.lc) ∧ w'.cell? ⟨bf, 4, none⟩ = some (.slice f.a4 f.n4 f.c4) ∧ w'.cell? ⟨bf, 5, none⟩ = some (.slice f.a5 f.n5 f.c5) ∧ w'.cell? ⟨bf, 6, none⟩ = some (.slice f.a6 f.n6 f.c6) ∧ w'.cell? ⟨bf, 7, none⟩ = some (.slice f.a7 f.n7 f.c7) ∧ w'.cell? ⟨bf, 8, none⟩ = some (.slice f.a8 f.n8 f.c8) ∧ w'.cell? ⟨bl, 0, none⟩ = some (.int .i64 lk.kind) ∧ w'.cell? ⟨bl, 1, none⟩ = some (.bool lk.ign) ∧ w'.cell? ⟨bl, 2, none⟩ = some (.slice (some ⟨mb, mo, none⟩) ln lc) ∧ w'.cell? ⟨mb, mo + j * 6, none⟩ = some (.slice A1 n1 c1) ∧ w'.cell? ⟨mb, mo + j * 6 + 1, none⟩ = some (.slice A2 n2 c2) ∧ w'.cell? ⟨mb, mo + j * 6 + 2, none⟩ = some (.slice A3 n3 c3) ∧ w'.cell? ⟨mb, mo + j * 6 + 3, none⟩ = some (.slice A4 n4 c4) ∧ w'.cell? ⟨mb, mo + j * 6 + 4, none⟩ = some (.slice A5 n5 c5) ∧ w'.cell? ⟨mb, mo + j * 6 + 5, none⟩ = some (.int .i64 r.x)) (first | ((with_reducible refine HS.out _ ?_); go_grown; done) | go_keep) (first
          | (go_at_call 29; (with_reducible refine (HCM.out _ ?_ ?_ ?_ ?_ ?_).mono ?_); exact hsr.hf; exact hsr.hI; exact r1; exact r2; exact r3; rintro e w5 ⟨A, m, c, rfl, o5, hb5⟩; have b5 := below_undrew hb5))
        have hs5 := hsr.call b5
        have hsz := hsr.bw.size
        clear y0 y1 y2 y3 y4 y5 y6 y7 y8 l0 l1 l2 g0 g1 g2 g3 g4 g5 HS HCM hsr hb5 r1 r2 r3 b5
        cases hfit : fits run r (foreL F lk.ign run k) (backL F lk.ign run k) with
        | true =>
          have hres : R = some (j, (foreL F lk.ign run k).take r.inn.length) := by rw [HR2.out, firstR_some HRr.out hfit HNO.out]; simp
          have o6 := Lib.hid (o5 hfit)
          have HRES := Lib.hid hres
          clear hres hfit o5
          go_wp2
          go_ret2
          rw [HRES.out]
          exact ⟨_, _, _, rfl, o6.out.lower hsz, hs5.bw⟩
        | false =>
          have HFI := Lib.hid hfit
          clear hfit o5
          go_wp2
          go_roundw
          case rel =>
            refine ⟨j + 1, by omega, by go_num, fun p x hp hx => ?_, hs5⟩
            by_cases eq : p = j
            · subst eq; rw [HRr.out] at hx; injection hx with hx; subst hx; exact HFI.out
            · exact HNO.out p x (by omega) hx
          case measure => simp [intOf]; omega
      · have hres : R = none := by
          rw [HR2.out, firstR_none fun p x hx => HNO.out p x (by have := (List.getElem?_eq_some_iff.1 hx).1; have := LR.out; omega) hx]
        have HRES := Lib.hid hres
        clear hres
        go_wp2
        go_ret2
        rw [HRES.out]
        exact ⟨rfl, hsr.bw⟩

end Go.Proofs.Ytkoocipagndclaa
