/- Walks: the document's other, nth. -/
import Derived.Test.YtkoocipagndclaaR12
namespace Go.Proofs.Ytkoocipagndclaa
open Go.RowKit Go.Shelf

theorem otherL_eq {r : Rul} {s : List Int} (g : Int) (h : r.inn.head?.getD [] = s) : otherL r g = (s.idxOf? g).bind fun n => r.out[n]? := by unfold otherL; rw [h]
set_option maxRecDepth 100000 in
set_option maxHeartbeats 1000000 in
theorem qother_c (r : Rul) (A1 : Option Addr) (n1 c1 : Nat) (A2 : Option Addr) (n2 c2 : Nat) (A3 : Option Addr) (n3 c3 : Nat) (A4 : Option Addr) (n4 c4 : Nat) (A5 : Option Addr) (n5 c5 : Nat) (g : Int) (w : World) (h2 : RdV w (lo w.heap.size) A2 n2 r.inn) (h4 : Rd w (lo w.heap.size) A4 n4 r.out) (d2 : Hd n2 c2) (d4 : Hd n4 c4) (hin : r.inn ≠ []) :
    Calls Try.prog 48 #[.agg #[.slice A1 n1 c1, .slice A2 n2 c2, .slice A3 n3 c3, .slice A4 n4 c4, .slice A5 n5 c5, .int .i64 r.x], .int .i64 g] w fun e w' => e = .returned (.tuple #[.int .i64 ((otherL r g).getD 0), .bool (otherL r g).isSome]) ∧ Below w.heap.size w w' := by
  obtain ⟨s, t, hse⟩ : ∃ s t, r.inn = s :: t := by cases h : r.inn with | nil => exact absurd h hin | cons s t => exact ⟨s, t, rfl⟩
  have hn2 : 0 < n2 := by have := h2.len; rw [hse] at this; simp at this; omega
  have HO := Lib.hid (otherL_eq (r := r) (s := s) g (by rw [hse]; rfl))
  have b1 : Below w.heap.size w (w.alloc (.cells #[.slice A1 n1 c1, .slice A2 n2 c2, .slice A3 n3 c3, .slice A4 n4 c4, .slice A5 n5 c5, .int .i64 r.x] 48)) := (Below.refl _ _).alloc (Nat.le_refl _) _
  have kr := Bk.new w 48 #[.slice A1 n1 c1, .slice A2 n2 c2, .slice A3 n3 c3, .slice A4 n4 c4, .slice A5 n5 c5, .int .i64 r.x]
  have h2 := h2.call b1
  have h4 := h4.call b1
  obtain ⟨b, o, rfl, _, hc⟩ := h2.pos hn2
  obtain ⟨cs, ⟨SA, sn, sc, rfl, hs, hsd⟩, hcc⟩ := hc 0 s (by rw [hse]; rfl)
  have s0 := hcc 0 _ rfl
  simp only [Nat.zero_mul, Nat.add_zero] at s0
  have n2z : (0 : Int) < (n2 : Int) := by omega
  have hn2M : n2 ≤ 9223372036854775807 := Nat.le_trans d2.1 d2.2
  have hsM : sn ≤ 9223372036854775807 := Nat.le_trans hsd.1 hsd.2
  have hn4M : n4 ≤ 9223372036854775807 := Nat.le_trans d4.1 d4.2
  have HLS := Lib.hid hs.len; have HL4 := Lib.hid h4.len
  clear hc hcc hse hin h2
  go_enter Try.func48, Try.ntmps48
  go_upto_region 1 with fail
  generalize w.alloc (.cells #[.slice A1 n1 c1, .slice (some ⟨b, o, none⟩) n2 c2, .slice A3 n3 c3, .slice A4 n4 c4, .slice A5 n5 c5, .int .i64 r.x] 48) = w1 at *
  have z1 : w1.cell? ⟨w.heap.size, 1, none⟩ = some (.slice (some ⟨b, o, none⟩) n2 c2) := kr.cell 1
  have z3 : w1.cell? ⟨w.heap.size, 3, none⟩ = some (.slice A4 n4 c4) := kr.cell 3
  generalize w.heap.size = br at z1 z3 ⊢
  clear kr
  go_wp2
  go_loop [6] (fun i => ∃ k : Nat, k ≤ sn ∧ k ≤ n4 ∧ i = .int .i64 k ∧ ∀ (j : Nat) (x : Int), j < k → s[j]? = some x → x ≠ g) (fun i => sn - (intOf i).toNat)
  case atStart => exact ⟨0, by omega, by omega, rfl, fun j x hj => by omega⟩
  case round =>
    obtain ⟨k, hk, hk4, rfl, hno⟩ := hrel
    have HNO := Lib.hid hno; clear hno
    by_cases hlt : k < sn
    · have ks : (k : Int) < (sn : Int) := by omega
      have kz : (0 : Int) ≤ (k : Int) := by omega
      by_cases hl4 : k < n4
      · have k4 : (k : Int) < (n4 : Int) := by omega
        obtain ⟨sb, so, rfl, _, hsc⟩ := hs.pos (by omega)
        obtain ⟨x, hx⟩ := at_some s k (by have := HLS.out; omega)
        obtain ⟨cs, rfl, hcc⟩ := hsc k x hx
        have c0 := hcc 0 _ rfl
        rw [Nat.mul_one, Nat.add_zero] at c0
        have HX := Lib.hid hx; clear hx hsc hcc
        by_cases hxg : x = g
        · obtain ⟨ob, oo, rfl, _, hoc⟩ := h4.pos (by omega)
          obtain ⟨v, hv⟩ := at_some r.out k (by have := HL4.out; omega)
          obtain ⟨cs, rfl, hcc⟩ := hoc k v hv
          have v0 := hcc 0 _ rfl
          rw [Nat.mul_one, Nat.add_zero] at v0
          have HR := Lib.hid (show otherL r g = some v by rw [HO.out, idx_some (k := k) (by rw [← hxg]; exact HX.out) HNO.out]; exact hv)
          clear hoc hcc hv
          subst hxg
          go_wp2
          go_ret2
          rw [HR.out]
          exact ⟨rfl, b1⟩
        · have e : (x == g) = false := by simpa using hxg
          go_wp2
          go_round
          case rel =>
            refine ⟨k + 1, by omega, by omega, by go_num, fun j y hj hy => ?_⟩
            by_cases ej : j = k
            · subst ej; rw [HX.out] at hy; injection hy with hy; subst hy; exact hxg
            · exact HNO.out j y (by omega) hy
          case measure => simp [intOf]; omega
      · have k4 : decide ((k : Int) < (n4 : Int)) = false := by simp; omega
        have k4' : decide (k < n4) = false := by simp; omega
        have HR := Lib.hid (show otherL r g = none by
          rw [HO.out]
          cases hi : s.idxOf? g with
          | none => rfl
          | some m =>
            rw [Option.bind_some]
            refine List.getElem?_eq_none ?_
            have hm : s[m]? = some g := by
              rw [List.idxOf?, List.findIdx?_eq_some_iff_getElem] at hi
              obtain ⟨h1, h2, _⟩ := hi
              rw [List.getElem?_eq_getElem h1]; simpa using h2
            have : ¬ m < k := fun h => HNO.out m g h hm rfl
            have := HL4.out
            omega)
        go_wp2
        go_ret2
        rw [HR.out]
        exact ⟨rfl, b1⟩
    · have ks : decide ((k : Int) < (sn : Int)) = false := by simp; omega
      have ks' : decide (k < sn) = false := by simp; omega
      have HR := Lib.hid (show otherL r g = none by rw [HO.out, idx_none fun j x hx => HNO.out j x (by have := (List.getElem?_eq_some_iff.1 hx).1; have := HLS.out; omega) hx]; rfl)
      go_wp2
      go_ret2
      rw [HR.out]
      exact ⟨rfl, b1⟩

def nthI (o : Option Nat) : Int := match o with | some q => (q : Int) | none => -1
theorem nthL_go {F : Fnt} {ign : Bool} {run : List Itm} {k m : Nat} (h : k < run.length) : (upL (seenB F ign run) run.length k)[m]? = if seenB F ign run k then (if m = 0 then some k else (upL (seenB F ign run) run.length (k + 1))[m - 1]?) else (upL (seenB F ign run) run.length (k + 1))[m]? := by
  rw [upL_step h]
  split
  · cases m with
    | zero => rfl
    | succ m => simp
  · rfl
set_option maxRecDepth 100000 in
set_option maxHeartbeats 4000000 in
theorem qnth_c (f : FV) (F : Fnt) (lk : Lk) (LA : Option Addr) (ln lc : Nat) (RA : Option Addr) (rn rc : Nat) (run : List Itm) (p : Nat) (n : Int) (w : World) (hf : IsF w (lo w.heap.size) f F) (hI : RdI w (lo w.heap.size) RA rn run) (hrn : rn ≤ 1000000) (hp : p ≤ 1000000) (hn2 : n ≤ 9223372036854775807) :
    Calls Try.prog 51 #[.agg f.cells, .agg (lkc lk LA ln lc), .slice RA rn rc, .int .i64 (p : Int), .int .i64 n] w fun e w' => e = .returned (.int .i64 (nthI (nthL F lk.ign run p n))) ∧ Below w.heap.size w w' := by
  have HLI := Lib.hid hI.len
  have b0 : Below w.heap.size w ((w.alloc (.cells f.cells 31)).alloc (.cells (lkc lk LA ln lc) 44)) := below_lit _ _ (below_lit _ _ (Below.refl _ _) _) _
  have kf : Bk ((w.alloc (.cells f.cells 31)).alloc (.cells (lkc lk LA ln lc) 44)) w.heap.size 31 f.cells := (Bk.new w 31 f.cells).alloc _
  have kl := Bk.new (w.alloc (.cells f.cells 31)) 44 (lkc lk LA ln lc)
  rw [World.size_alloc] at kl
  replace hf := hf.call b0
  replace hI := hI.call b0
  obtain ⟨R, hR⟩ : ∃ R, R = nthL F lk.ign run p n := ⟨_, rfl⟩
  rw [← hR]
  have HR := Lib.hid hR
  clear hR
  unfold FV.cells lkc at kf kl hf hI b0
  unfold FV.cells lkc
  go_enter Try.func51, Try.ntmps51
  go_upto_region 1 with fail
  generalize (w.alloc (.cells #[.int .i64 f.u0, .slice f.ga f.gn f.gc, .slice f.ca f.cn f.cc, .slice f.la f.ln f.lc, .slice f.a4 f.n4 f.c4, .slice f.a5 f.n5 f.c5, .slice f.a6 f.n6 f.c6, .slice f.a7 f.n7 f.c7, .slice f.a8 f.n8 f.c8] 31)).alloc (.cells #[.int .i64 lk.kind, .bool lk.ign, .slice LA ln lc] 44) = W0 at kf kl hf hI b0 ⊢
  have FIN := Lib.hid fun (v : Int) (h : v = nthI R) (W : World) (hb : Below W0.heap.size W0 W) => (show Ending.returned (.int .i64 v) = Ending.returned (.int .i64 (nthI R)) ∧ Below w.heap.size w W from ⟨ret_int h, below_call b0 hb⟩)
  generalize hbf : w.heap.size = bf at kf kl ⊢
  generalize hbl : bf + 1 = bl at kl ⊢
  clear hbl hbf
  have hs0 : Bk W0 bf 31 f.cells ∧ Bk W0 bl 44 (lkc lk LA ln lc) := ⟨kf, kl⟩
  by_cases hneg : n < 0
  · have tn : decide (n < 0) = true := by simp; omega
    have HF := Lib.hid (FIN.out (-1) (by rw [HR.out]; unfold nthL; rw [if_pos hneg]; rfl) W0 (Below.refl _ _))
    go_wp2
    go_ret
    exact HF.out
  · have tn : decide (n < 0) = false := by simp; omega
    obtain ⟨m0, rfl⟩ : ∃ m : Nat, n = (m : Int) := ⟨n.toNat, by omega⟩
    have HR2 := Lib.hid (show R = (upL (seenB F lk.ign run) run.length p)[m0]? by rw [HR.out]; unfold nthL; rw [if_neg hneg, Int.toNat_natCast])
    clear hneg HR
    go_wp2
    go_loopw [4, 11] (fun s4 s11 wr => ∃ (m k : Nat), s4 = .int .i64 (m : Int) ∧ s11 = .int .i64 (k : Int) ∧ m ≤ 9223372036854775807 ∧ k ≤ 1000000 ∧ R = (upL (seenB F lk.ign run) run.length k)[m]? ∧ Below W0.heap.size W0 wr) (fun _ i _ => rn - (intOf i).toNat)
    case atStart => exact ⟨m0, p, rfl, rfl, by omega, hp, HR2.out, Below.refl _ _⟩
    case round =>
      clear hp HR2
      obtain ⟨m, k, rfl, rfl, hm, hk, hR, hbr⟩ := hrel
      have HRR := Lib.hid hR; clear hR
      have hIr := hI.call hbr
      by_cases hlt : k < rn
      · have kn : (k : Int) < (rn : Int) := by omega
        have kz : (0 : Int) ≤ (k : Int) := by omega
        obtain ⟨it, hit⟩ := at_some run k (by have := HLI.out; omega)
        obtain ⟨rb, ro, rfl, _, hc⟩ := hIr.pos (by omega)
        obtain ⟨cs, rfl, hcc⟩ := hc k it hit
        have x0 := hcc 0 _ rfl
        have x1 := hcc 1 _ rfl
        have x2 := hcc 2 _ rfl
        have x3 := hcc 3 _ rfl
        have x4 := hcc 4 _ rfl
        have x5 := hcc 5 _ rfl
        rw [Nat.add_zero] at x0
        have hsb : seenB F lk.ign run k = !(lk.ign && isMark F it.g) := by unfold seenB; rw [gAt_some hit]
        have hst := nthL_go (F := F) (ign := lk.ign) (run := run) (k := k) (m := m) (by have := HLI.out; omega)
        rw [hsb] at hst
        have HST := Lib.hid (HRR.out.trans hst)
        have HCM := Lib.hid fun (W : World) (h : IsF W (lo W.heap.size) f F) => qseen_c f F lk LA ln lc it W h
        unfold FV.cells lkc itv at HCM
        clear hsb hst hit hc hcc HRR
        generalize (!(lk.ign && isMark F it.g)) = sb at *
        have HS := Lib.hid fun (W : World) (b : Below wr.heap.size wr W) => (show W.cell? ⟨bf, 0, none⟩ = some (.int .i64 f.u0) ∧ W.cell? ⟨bf, 1, none⟩ = some (.slice f.ga f.gn f.gc) ∧ W.cell? ⟨bf, 2, none⟩ = some (.slice f.ca f.cn f.cc) ∧ W.cell? ⟨bf, 3, none⟩ = some (.slice f.la f.ln f.lc) ∧ W.cell? ⟨bf, 4, none⟩ = some (.slice f.a4 f.n4 f.c4) ∧ W.cell? ⟨bf, 5, none⟩ = some (.slice f.a5 f.n5 f.c5) ∧ W.cell? ⟨bf, 6, none⟩ = some (.slice f.a6 f.n6 f.c6) ∧ W.cell? ⟨bf, 7, none⟩ = some (.slice f.a7 f.n7 f.c7) ∧ W.cell? ⟨bf, 8, none⟩ = some (.slice f.a8 f.n8 f.c8) ∧ W.cell? ⟨bl, 0, none⟩ = some (.int .i64 lk.kind) ∧ W.cell? ⟨bl, 1, none⟩ = some (.bool lk.ign) ∧ W.cell? ⟨bl, 2, none⟩ = some (.slice LA ln lc) ∧ W.cell? ⟨rb, ro + k * 6, none⟩ = some (.int .i64 it.g) ∧ W.cell? ⟨rb, ro + k * 6 + 1, none⟩ = some (.int .i64 it.c) ∧ W.cell? ⟨rb, ro + k * 6 + 2, none⟩ = some (.int .i64 it.f) ∧ W.cell? ⟨rb, ro + k * 6 + 3, none⟩ = some (.int .i64 it.a) ∧ W.cell? ⟨rb, ro + k * 6 + 4, none⟩ = some (.int .i64 it.x) ∧ W.cell? ⟨rb, ro + k * 6 + 5, none⟩ = some (.int .i64 it.y) from by
          have b2 := below_call hbr b
          obtain ⟨z0, z1, z2, z3, z4, z5, z6, z7, z8⟩ := font_cells (hs0.1.call b2)
          obtain ⟨l0, l1, l2⟩ := look_cells (hs0.2.call b2)
          exact And.intro z0 (And.intro z1 (And.intro z2 (And.intro z3 (And.intro z4 (And.intro z5 (And.intro z6 (And.intro z7 (And.intro z8 (And.intro l0 (And.intro l1 (And.intro l2 (And.intro (cell_call x0 b) (And.intro (cell_call x1 b) (And.intro (cell_call x2 b) (And.intro (cell_call x3 b) (And.intro (cell_call x4 b) ((cell_call x5 b)))))))))))))))))))
        have hfr := hf.call hbr
        obtain ⟨y0, y1, y2, y3, y4, y5, y6, y7, y8⟩ := font_cells (hs0.1.call hbr)
        obtain ⟨l0, l1, l2⟩ := look_cells (hs0.2.call hbr)
        go_wp2
        go_region_held3 (fun w' => w'.cell? ⟨bf, 0, none⟩ = some (.int .i64 f.u0) ∧ w'.cell? ⟨bf, 1, none⟩ = some (.slice f.ga f.gn f.gc) ∧ w'.cell? ⟨bf, 2, none⟩ = some (.slice f.ca f.cn f.cc) ∧ w'.cell? ⟨bf, 3, none⟩ = some (.slice f.la f.ln f.lc) ∧ w'.cell? ⟨bf, 4, none⟩ = some (.slice f.a4 f.n4 f.c4) ∧ w'.cell? ⟨bf, 5, none⟩ = some (.slice f.a5 f.n5 f.c5) ∧ w'.cell? ⟨bf, 6, none⟩ = some (.slice f.a6 f.n6 f.c6) ∧ w'.cell? ⟨bf, 7, none⟩ = some (.slice f.a7 f.n7 f.c7) ∧ w'.cell? ⟨bf, 8, none⟩ = some (.slice f.a8 f.n8 f.c8) ∧ w'.cell? ⟨bl, 0, none⟩ = some (.int .i64 lk.kind) ∧ w'.cell? ⟨bl, 1, none⟩ = some (.bool lk.ign) ∧ w'.cell? ⟨bl, 2, none⟩ = some (.slice LA ln lc) ∧ w'.cell? ⟨rb, ro + k * 6, none⟩ = some (.int .i64 it.g) ∧ w'.cell? ⟨rb, ro + k * 6 + 1, none⟩ = some (.int .i64 it.c) ∧ w'.cell? ⟨rb, ro + k * 6 + 2, none⟩ = some (.int .i64 it.f) ∧ w'.cell? ⟨rb, ro + k * 6 + 3, none⟩ = some (.int .i64 it.a) ∧ w'.cell? ⟨rb, ro + k * 6 + 4, none⟩ = some (.int .i64 it.x) ∧ w'.cell? ⟨rb, ro + k * 6 + 5, none⟩ = some (.int .i64 it.y)) (first | ((with_reducible refine HS.out _ ?_); go_grown; done) | go_keep) (first
          | (go_at_call 42; (with_reducible refine (HCM.out _ ?_).mono ?_); exact hfr; rintro e w5 ⟨rfl, hb5⟩; have b5 := below_undrew hb5))
        have hb6 := below_call hbr b5
        clear y0 y1 y2 y3 y4 y5 y6 y7 y8 l0 l1 l2 x0 x1 x2 x3 x4 x5 HS HCM hfr hb5 hIr b5
        cases sb with
        | false =>
          have HS2 := Lib.hid (show R = (upL (seenB F lk.ign run) run.length (k + 1))[m]? by rw [HST.out]; rfl)
          go_wp2
          go_roundw
          case rel => exact ⟨m, k + 1, rfl, by go_num, hm, by omega, HS2.out, hb6⟩
          case measure => simp [intOf]; omega
        | true =>
          by_cases hm0 : m = 0
          · subst hm0
            have HF := Lib.hid (FIN.out (k : Int) (by rw [HST.out]; rfl) _ hb6)
            go_wp2
            go_ret
            exact HF.out
          · have t0 : ((m : Int) == 0) = false := by simp; omega
            have t0' : (m == 0) = false := by simpa using hm0
            have HS2 := Lib.hid (show R = (upL (seenB F lk.ign run) run.length (k + 1))[m - 1]? by rw [HST.out, if_pos rfl, if_neg hm0])
            go_wp2
            go_roundw
            case rel => exact ⟨m - 1, k + 1, by congr 1; omega, by go_num, by omega, by omega, HS2.out, hb6⟩
            case measure => simp [intOf]; omega
      · have kn : decide ((k : Int) < (rn : Int)) = false := by simp; omega
        have kn' : decide (k < rn) = false := by simp; omega
        have HF := Lib.hid (FIN.out (-1) (by rw [HRR.out, upL_end (by have := HLI.out; omega)]; rfl) _ hbr)
        go_wp2
        go_ret
        exact HF.out

end Go.Proofs.Ytkoocipagndclaa
