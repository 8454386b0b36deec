/- Walks: the document's walk over the places of items that match sets. -/
import Derived.Test.YtkoocipagndclaaR5
namespace Go.Proofs.Ytkoocipagndclaa
open Go.RowKit Go.Shelf

theorem look_cells {w : World} {g : Nat} {lk : Lk} {A : Option Addr} {n c : Nat} (k : Bk w g 44 (lkc lk A n c)) : w.cell? ⟨g, 0, none⟩ = some (.int .i64 lk.kind) ∧ w.cell? ⟨g, 1, none⟩ = some (.bool lk.ign) ∧ w.cell? ⟨g, 2, none⟩ = some (.slice A n c) :=
  ⟨k.cell 0, k.cell 1, k.cell 2⟩
/-- The font and the lookup in variables, and a row of the call's own. -/
structure WK (B bf bl : Nat) (W0 W : World) (f : FV) (F : Fnt) (lk : Lk) (LA : Option Addr) (ln lc : Nat) (RA : Option Addr) (rn : Nat) (run : List Itm) (SA : Option Addr) (sn : Nat) (sets : List (List Int)) (A : Option Addr) (m c : Nat) (xs : List Nat) : Prop where
  hB : B ≤ W.heap.size
  lf : bf < B
  ll : bl < B
  kf : Bk W bf 31 f.cells
  kl : Bk W bl 44 (lkc lk LA ln lc)
  font : IsF W (lo B) f F
  hI : RdI W (lo B) RA rn run
  hS : RdV W (lo B) SA sn sets
  own : Ow 3 1 W B A m c (ic (natI xs))
  bw : Below B W0 W
section
variable {B bf bl : Nat} {W0 W W' : World} {f : FV} {F : Fnt} {lk : Lk} {LA : Option Addr} {ln lc : Nat} {RA : Option Addr} {rn : Nat} {run : List Itm} {SA : Option Addr} {sn : Nat} {sets : List (List Int)} {A A' : Option Addr} {m c m' c' : Nat} {xs xs' : List Nat}
theorem WK.app (h : WK B bf bl W0 W f F lk LA ln lc RA rn run SA sn sets A m c xs) (b : Below B W W') (o : Ow 3 1 W' B A' m' c' (ic (natI xs'))) : WK B bf bl W0 W' f F lk LA ln lc RA rn run SA sn sets A' m' c' xs' :=
  ⟨Nat.le_trans h.hB b.size, h.lf, h.ll, h.kf.below b h.lf, h.kl.below b h.ll, h.font.mono (fun _ h => h) (kept_below b), h.hI.mono (fun _ h => h) (kept_below b), h.hS.mono (fun _ h => h) (kept_below b), o, h.bw.trans b⟩
theorem WK.call (h : WK B bf bl W0 W f F lk LA ln lc RA rn run SA sn sets A m c xs) (b : Below W.heap.size W W') : WK B bf bl W0 W' f F lk LA ln lc RA rn run SA sn sets A m c xs := h.app (b.mono h.hB) (h.own.call b)
theorem WK.fontU (h : WK B bf bl W0 W f F lk LA ln lc RA rn run SA sn sets A m c xs) : IsF W (lo W.heap.size) f F := h.font.up h.hB
theorem WK.drewN_ (h : WK B bf bl W0 W f F lk LA ln lc RA rn run SA sn sets A m c xs) (d : Nat) : WK B bf bl W0 (W.drewN d) f F lk LA ln lc RA rn run SA sn sets A m c xs := h.call ⟨rfl, rfl, rfl, Nat.le_refl _, fun _ _ => rfl⟩
theorem WK.drew_ (h : WK B bf bl W0 W f F lk LA ln lc RA rn run SA sn sets A m c xs) : WK B bf bl W0 W.drew f F lk LA ln lc RA rn run SA sn sets A m c xs := h.call ⟨rfl, rfl, rfl, Nat.le_refl _, fun _ _ => rfl⟩
theorem WK.len (h : WK B bf bl W0 W f F lk LA ln lc RA rn run SA sn sets A m c xs) : xs.length = m := by have := h.own.rd.len; rw [natI_len] at this; exact this
end
theorem inSets_nil {run : List Itm} {ss : List (List Int)} (h : ss ≠ []) : inSets run ss [] = false := by cases ss with | nil => exact absurd rfl h | cons => rfl
theorem natI_app (xs ys : List Nat) : natI (xs ++ ys) = natI xs ++ natI ys := by simp [natI]
theorem qIn_d (A : Option Addr) (n c : Nat) (xs : List Int) (g : Int) (w : World) (h : Rd w (lo w.heap.size) A n xs) (hn : n ≤ 9223372036854775807) :
    Calls Try.prog 43 #[.slice A n c, .int .i64 g] w fun e w' => e = .returned (.bool (xs.contains g)) ∧ ∃ d, w' = w.drewN d := (qIn_c A n c xs g w h hn).mono fun _ _ ⟨he, hm⟩ => ⟨he, 0, hm.symm⟩

/-- What the walk tells. -/
def WPost (w : World) (run : List Itm) (sets : List (List Int)) (ps : List Nat) (e : Ending) (w' : World) : Prop :=
  ∃ A m c xs, e = .returned (.tuple #[.slice A m c, .bool (inSets run sets ps)]) ∧ Ow 3 1 w' w.heap.size A m c (ic (natI xs)) ∧ (inSets run sets ps = true → xs = ps.take sets.length) ∧ Below w.heap.size w w'

set_option maxRecDepth 100000 in
set_option maxHeartbeats 4000000 in
theorem qwalk_c (f : FV) (F : Fnt) (lk : Lk) (LA : Option Addr) (ln lc : Nat) (RA : Option Addr) (rn rc : Nat) (run : List Itm) (SA : Option Addr) (sn sc : Nat) (sets : List (List Int)) (R : Int → List Nat) (st i0 : Int) (w : World)
    (hf : IsF w (lo w.heap.size) f F) (hI : RdI w (lo w.heap.size) RA rn run) (hS : RdV w (lo w.heap.size) SA sn sets) (hrn : rn ≤ 1000000) (hsn : sn ≤ 1000000) (hst : st = 1 ∨ st = -1) (hi0 : -1 ≤ i0) (hi1 : i0 ≤ rn)
    (hR0 : ∀ i : Int, i < 0 ∨ (rn : Int) ≤ i → R i = []) (hR1 : ∀ k : Nat, k < rn → R k = if seenB F lk.ign run k then k :: R (k + st) else R (k + st)) :
    Calls Try.prog 44 #[.agg f.cells, .agg (lkc lk LA ln lc), .slice RA rn rc, .int .i64 i0, .int .i64 st, .slice SA sn sc] w (WPost w run sets (R i0)) := by
  have HR0 := Lib.hid hR0; have HR1 := Lib.hid hR1; have HLS := Lib.hid hS.len; have HLI := Lib.hid hI.len; have HST := Lib.hid hst
  have b0 : Below w.heap.size w ((w.alloc (.cells f.cells 31)).alloc (.cells (lkc lk LA ln lc) 44)) := below_lit _ _ (below_lit _ _ (Below.refl _ _) _) _
  have hs0 : WK ((w.alloc (.cells f.cells 31)).alloc (.cells (lkc lk LA ln lc) 44)).heap.size w.heap.size (w.alloc (.cells f.cells 31)).heap.size ((w.alloc (.cells f.cells 31)).alloc (.cells (lkc lk LA ln lc) 44)) (((w.alloc (.cells f.cells 31)).alloc (.cells (lkc lk LA ln lc) 44)).alloc (.cells #[] 3)) f F lk LA ln lc RA rn run SA sn sets (some ⟨((w.alloc (.cells f.cells 31)).alloc (.cells (lkc lk LA ln lc) 44)).heap.size, 0, none⟩) 0 0 [] :=
    have b1 : Below ((w.alloc (.cells f.cells 31)).alloc (.cells (lkc lk LA ln lc) 44)).heap.size ((w.alloc (.cells f.cells 31)).alloc (.cells (lkc lk LA ln lc) 44)) (((w.alloc (.cells f.cells 31)).alloc (.cells (lkc lk LA ln lc) 44)).alloc (.cells #[] 3)) := (Below.refl _ _).alloc (Nat.le_refl _) _
    ⟨b1.size, by simp; omega, by simp, ((Bk.new w 31 f.cells).alloc _).alloc _, (Bk.new (w.alloc (.cells f.cells 31)) 44 (lkc lk LA ln lc)).alloc _, (hf.call b0).mono (fun _ h => h) (kept_below b1), (hI.call b0).mono (fun _ h => h) (kept_below b1), (hS.call b0).mono (fun _ h => h) (kept_below b1), own_empty _ _ _, b1⟩
  have hrn' : rn ≤ 9223372036854775807 := by omega
  unfold FV.cells lkc at hs0 b0
  unfold FV.cells lkc
  go_enter Try.func44, Try.ntmps44
  go_wp2
  have HB0 := Lib.hid b0
  have hw0 := b0.size
  have hA : (some ⟨((w.alloc (.cells #[.int .i64 f.u0, .slice f.ga f.gn f.gc, .slice f.ca f.cn f.cc, .slice f.la f.ln f.lc, .slice f.a4 f.n4 f.c4, .slice f.a5 f.n5 f.c5, .slice f.a6 f.n6 f.c6, .slice f.a7 f.n7 f.c7, .slice f.a8 f.n8 f.c8] 31)).alloc (.cells #[.int .i64 lk.kind, .bool lk.ign, .slice LA ln lc] 44)).heap.size, 0, none⟩ : Option Addr) = some ⟨w.heap.size + 1 + 1, 0, none⟩ := by simp
  have hA2 : (w.alloc (.cells #[.int .i64 f.u0, .slice f.ga f.gn f.gc, .slice f.ca f.cn f.cc, .slice f.la f.ln f.lc, .slice f.a4 f.n4 f.c4, .slice f.a5 f.n5 f.c5, .slice f.a6 f.n6 f.c6, .slice f.a7 f.n7 f.c7, .slice f.a8 f.n8 f.c8] 31)).heap.size = w.heap.size + 1 := by simp
  rw [hA, hA2] at hs0
  clear hA hA2
  clear b0 hR0 hR1 hf hI hS
  generalize hW0 : (w.alloc (.cells #[.int .i64 f.u0, .slice f.ga f.gn f.gc, .slice f.ca f.cn f.cc, .slice f.la f.ln f.lc, .slice f.a4 f.n4 f.c4, .slice f.a5 f.n5 f.c5, .slice f.a6 f.n6 f.c6, .slice f.a7 f.n7 f.c7, .slice f.a8 f.n8 f.c8] 31)).alloc (.cells #[.int .i64 lk.kind, .bool lk.ign, .slice LA ln lc] 44) = W0 at hs0 hw0 HB0 ⊢
  generalize hbf : w.heap.size = bf at hs0 ⊢
  have HBF := Lib.hid hbf
  generalize hbl : bf + 1 = bl at hs0 ⊢
  clear hbl hW0
  go_loopw [14, 15] (fun s14 s15 wr => ∃ (A : Option Addr) (m c : Nat) (xs : List Nat) (i : Int), s14 = .slice A m c ∧ s15 = .int .i64 i ∧ -1 ≤ i ∧ i ≤ rn ∧ m ≤ sn ∧ R i0 = xs ++ R i ∧ inSets run sets (R i0) = inSets run (sets.drop m) (R i) ∧ WK W0.heap.size bf bl W0 wr f F lk LA ln lc RA rn run SA sn sets A m c xs) (fun _ i _ => (if st = 1 then (rn : Int) - intOf i else intOf i + 1).toNat)
  case atStart => exact ⟨_, 0, 0, [], i0, rfl, rfl, hi0, hi1, by omega, rfl, rfl, hs0⟩
  case round =>
    obtain ⟨A, m, c, xs, i, rfl, rfl, hia, hib, hms, hxs, hin, hsr⟩ := hrel
    have HXS := Lib.hid hxs; have HIN := Lib.hid hin
    clear hxs hin hs0
    have fin : ∀ b, inSets run sets (R i0) = b → (b = true → xs = (R i0).take sets.length) → WPost w run sets (R i0) (.returned (.tuple #[.slice A m c, .bool b])) wr := fun b hb ht =>
      ⟨A, m, c, xs, by rw [hb], hsr.own.lower (by rw [HBF.out]; rw [HBF.out] at hw0; exact hw0), fun h => ht (by rw [← hb, h]), HB0.out.trans (hsr.bw.mono (by rw [HBF.out]; rw [HBF.out] at hw0; exact hw0))⟩
    have FIN := Lib.hid fin
    clear fin
    by_cases hm : m < sn
    · have t0 : decide ((m : Int) < (sn : Int)) = true := by simp; omega
      have t0' : ((m : Int) == (sn : Int)) = false := by simp; omega
      by_cases h0 : i < 0
      · have t1 : decide (0 ≤ i) = false := by simp; omega
        have HF := Lib.hid (FIN.out false (by rw [HIN.out, HR0.out i (.inl h0)]; exact inSets_nil (fun h => by have := congrArg List.length h; rw [List.length_drop, HLS.out] at this; simp at this; omega)) (fun h => by cases h))
        go_wp2
        go_ret2
        exact HF.out
      · have t1 : decide (0 ≤ i) = true := by simp; omega
        by_cases h1 : (rn : Int) ≤ i
        · have t2 : decide (i < (rn : Int)) = false := by simp; omega
          have HF := Lib.hid (FIN.out false (by rw [HIN.out, HR0.out i (.inr h1)]; exact inSets_nil (fun h => by have := congrArg List.length h; rw [List.length_drop, HLS.out] at this; simp at this; omega)) (fun h => by cases h))
          go_wp2
          go_ret2
          exact HF.out
        · obtain ⟨k, rfl⟩ : ∃ k : Nat, i = k := ⟨i.toNat, by omega⟩
          have t2 : decide ((k : Int) < (rn : Int)) = true := by simp; omega
          have t2' : decide (k < rn) = true := by simp; omega
          have kz : (0 : Int) ≤ (k : Int) := by omega
          have kn : (k : Int) < (rn : Int) := by omega
          have hwr : wrap64 ((k : Int) + st) = (k : Int) + st := by rcases HST.out with h | h <;> subst h <;> unfold wrap64 <;> omega
          obtain ⟨it, hit⟩ := at_some run k (by have := HLI.out; omega)
          obtain ⟨rb, ro, rfl, _, hc⟩ := hsr.hI.pos (by omega)
          obtain ⟨cs, rfl, hcc⟩ := hc k it hit
          have x0 := hcc 0 _ rfl
          have x1 := hcc 1 _ rfl
          have x2 := hcc 2 _ rfl
          have x3 := hcc 3 _ rfl
          have x4 := hcc 4 _ rfl
          have x5 := hcc 5 _ rfl
          rw [Nat.add_zero] at x0
          have hgk := gAt_some hit
          have hR := HR1.out k (by omega)
          have hsb : seenB F lk.ign run k = !(lk.ign && isMark F it.g) := by unfold seenB; rw [hgk]
          rw [hsb] at hR
          have HR := Lib.hid hR; have HG := Lib.hid hgk
          have HCM := Lib.hid fun (W : World) (h : IsF W (lo W.heap.size) f F) => qseen_c f F lk LA ln lc it W h
          unfold FV.cells lkc itv at HCM
          clear hsb hR hgk hit hc hcc h0 h1
          generalize (!(lk.ign && isMark F it.g)) = sb at *
          have HS := Lib.hid fun (W : World) (b : Below wr.heap.size wr W) => (show W.cell? ⟨bf, 0, none⟩ = some (.int .i64 f.u0) ∧ W.cell? ⟨bf, 1, none⟩ = some (.slice f.ga f.gn f.gc) ∧ W.cell? ⟨bf, 2, none⟩ = some (.slice f.ca f.cn f.cc) ∧ W.cell? ⟨bf, 3, none⟩ = some (.slice f.la f.ln f.lc) ∧ W.cell? ⟨bf, 4, none⟩ = some (.slice f.a4 f.n4 f.c4) ∧ W.cell? ⟨bf, 5, none⟩ = some (.slice f.a5 f.n5 f.c5) ∧ W.cell? ⟨bf, 6, none⟩ = some (.slice f.a6 f.n6 f.c6) ∧ W.cell? ⟨bf, 7, none⟩ = some (.slice f.a7 f.n7 f.c7) ∧ W.cell? ⟨bf, 8, none⟩ = some (.slice f.a8 f.n8 f.c8) ∧ W.cell? ⟨bl, 0, none⟩ = some (.int .i64 lk.kind) ∧ W.cell? ⟨bl, 1, none⟩ = some (.bool lk.ign) ∧ W.cell? ⟨bl, 2, none⟩ = some (.slice LA ln lc) ∧ W.cell? ⟨rb, ro + k * 6, none⟩ = some (.int .i64 it.g) ∧ W.cell? ⟨rb, ro + k * 6 + 1, none⟩ = some (.int .i64 it.c) ∧ W.cell? ⟨rb, ro + k * 6 + 2, none⟩ = some (.int .i64 it.f) ∧ W.cell? ⟨rb, ro + k * 6 + 3, none⟩ = some (.int .i64 it.a) ∧ W.cell? ⟨rb, ro + k * 6 + 4, none⟩ = some (.int .i64 it.x) ∧ W.cell? ⟨rb, ro + k * 6 + 5, none⟩ = some (.int .i64 it.y) from by
            obtain ⟨z0, z1, z2, z3, z4, z5, z6, z7, z8⟩ := font_cells (hsr.call b).kf
            obtain ⟨l0, l1, l2⟩ := look_cells (hsr.call b).kl
            exact And.intro z0 (And.intro z1 (And.intro z2 (And.intro z3 (And.intro z4 (And.intro z5 (And.intro z6 (And.intro z7 (And.intro z8 (And.intro l0 (And.intro l1 (And.intro l2 (And.intro (cell_call x0 b) (And.intro (cell_call x1 b) (And.intro (cell_call x2 b) (And.intro (cell_call x3 b) (And.intro (cell_call x4 b) ((cell_call x5 b)))))))))))))))))))
          obtain ⟨y0, y1, y2, y3, y4, y5, y6, y7, y8⟩ := font_cells hsr.kf
          obtain ⟨l0, l1, l2⟩ := look_cells hsr.kl
          go_wp2
          go_region_held3 (fun w' => w'.cell? ⟨bf, 0, none⟩ = some (.int .i64 f.u0) ∧ w'.cell? ⟨bf, 1, none⟩ = some (.slice f.ga f.gn f.gc) ∧ w'.cell? ⟨bf, 2, none⟩ = some (.slice f.ca f.cn f.cc) ∧ w'.cell? ⟨bf, 3, none⟩ = some (.slice f.la f.ln f.lc) ∧ w'.cell? ⟨bf, 4, none⟩ = some (.slice f.a4 f.n4 f.c4) ∧ w'.cell? ⟨bf, 5, none⟩ = some (.slice f.a5 f.n5 f.c5) ∧ w'.cell? ⟨bf, 6, none⟩ = some (.slice f.a6 f.n6 f.c6) ∧ w'.cell? ⟨bf, 7, none⟩ = some (.slice f.a7 f.n7 f.c7) ∧ w'.cell? ⟨bf, 8, none⟩ = some (.slice f.a8 f.n8 f.c8) ∧ w'.cell? ⟨bl, 0, none⟩ = some (.int .i64 lk.kind) ∧ w'.cell? ⟨bl, 1, none⟩ = some (.bool lk.ign) ∧ w'.cell? ⟨bl, 2, none⟩ = some (.slice LA ln lc) ∧ w'.cell? ⟨rb, ro + k * 6, none⟩ = some (.int .i64 it.g) ∧ w'.cell? ⟨rb, ro + k * 6 + 1, none⟩ = some (.int .i64 it.c) ∧ w'.cell? ⟨rb, ro + k * 6 + 2, none⟩ = some (.int .i64 it.f) ∧ w'.cell? ⟨rb, ro + k * 6 + 3, none⟩ = some (.int .i64 it.a) ∧ w'.cell? ⟨rb, ro + k * 6 + 4, none⟩ = some (.int .i64 it.x) ∧ w'.cell? ⟨rb, ro + k * 6 + 5, none⟩ = some (.int .i64 it.y)) (first | ((with_reducible refine HS.out _ ?_); go_grown; done) | go_keep) (first
            | (go_at_call 42; (with_reducible refine (HCM.out _ ?_).mono ?_); exact hsr.drew_.fontU; rintro e w5 ⟨rfl, hb5⟩; have b5 := below_undrew hb5))
          have hs5 := hsr.call b5
          have x0 := cell_call x0 b5
          clear y0 y1 y2 y3 y4 y5 y6 y7 y8 l0 l1 l2 x1 x2 x3 x4 x5 HS HCM hsr hb5
          cases sb with
          | false =>
            go_wp2
            go_roundw
            case rel => exact ⟨A, m, c, xs, (k : Int) + st, rfl, rfl, by rcases HST.out with h | h <;> omega, by rcases HST.out with h | h <;> omega, hms, by rw [HXS.out, HR.out]; rfl, by rw [HIN.out, HR.out]; rfl, hs5⟩
            case measure => rcases HST.out with h | h <;> subst h <;> simp [intOf] <;> omega
          | true =>
            obtain ⟨s, hs⟩ := at_some sets m (by have := HLS.out; omega)
            obtain ⟨sb, so, rfl, _, hcs⟩ := hs5.hS.pos (by omega)
            obtain ⟨cs, ⟨SA', sn', sc', rfl, hSA, hSd⟩, hccs⟩ := hcs m s hs
            have s0 := hccs 0 _ rfl
            rw [Nat.mul_one, Nat.add_zero] at s0
            have hnx : inSets run sets (R i0) = (s.contains it.g && inSets run (sets.drop (m + 1)) (R ((k : Int) + st))) := by
              rw [HIN.out, HR.out]
              obtain ⟨h1, rfl⟩ := List.getElem?_eq_some_iff.1 hs
              rw [List.drop_eq_getElem_cons h1, if_pos rfl, inSets_cons, HG.out]
            have HNX := Lib.hid hnx
            have mz : (0 : Int) ≤ (m : Int) := by omega
            have mn : (m : Int) < (sn : Int) := by omega
            have HCI := Lib.hid fun (W : World) (h : Rd W (lo W.heap.size) SA' sn' s) => qIn_d SA' sn' sc' s it.g W h (Nat.le_trans hSd.1 hSd.2)
            have HRD := Lib.hid (hSA.mono (lo_mono hs5.hB) (Kept.refl _ _))
            clear hnx hs hcs hccs hSA
            generalize s.contains it.g = cb at *
            go_wp2
            go_quiet ((go_at_call 43; (first | (with_reducible refine quiet_d (HCI.out _ ?_)) | (with_reducible refine quiet_add_d (HCI.out _ ?_))); exact HRD.out))
            have hs6 := hs5.drewN_ nq
            clear HRD HCI hs5 x0 s0 b5
            generalize w5.drewN nq = w6 at hs6 ⊢
            cases cb with
            | false =>
              have HF : WPost w run sets (R i0) (.returned (.tuple #[.slice A m c, .bool false])) w6 := ⟨A, m, c, xs, by rw [HNX.out]; rfl, hs6.own.lower (by rw [HBF.out]; rw [HBF.out] at hw0; exact hw0), fun h => (by rw [HNX.out] at h; cases h), HB0.out.trans (hs6.bw.mono (by rw [HBF.out]; rw [HBF.out] at hw0; exact hw0))⟩
              have HF := Lib.hid HF
              go_wp2
              go_ret2
              exact HF.out
            | true =>
              have ho2 := hs6.own.alloc (.cells #[.int .i64 (k : Int)] 3)
              have hB2 : W0.heap.size ≤ (w6.alloc (.cells #[.int .i64 (k : Int)] 3)).heap.size := by have := hs6.hB; simp; omega
              have ba : Below W0.heap.size w6 (w6.alloc (.cells #[.int .i64 (k : Int)] 3)) := (Below.refl _ _).alloc hs6.hB _
              go_wp2_with (at_builtin; refine appP elt_int rfl _ _ rfl _ W0.heap.size _ _ _ _ _ _ _ [.int .i64 (k : Int)] (by rfl) (by rfl) ho2 (by rfl) (news_new _ _ _) (by simp [Value.oneCell']) (by omega) hB2 ?_; intro A' c' w7 ho' hg' hb' hat')
              have hs7 := hs6.app (ba.trans hb') (xs' := xs ++ [k]) (by rw [natI_app, ic_app]; exact ho')
              go_wp2
              go_roundw
              case rel => exact ⟨A', m + 1, c', xs ++ [k], (k : Int) + st, by go_num, rfl, by rcases HST.out with h | h <;> omega, by rcases HST.out with h | h <;> omega, by omega, by rw [HXS.out, HR.out]; simp, by rw [HNX.out]; rfl, hs7⟩
              case measure => rcases HST.out with h | h <;> subst h <;> simp [intOf] <;> omega
    · have hms' : m = sn := by omega
      subst hms'
      have t0 : decide ((m : Int) < (m : Int)) = false := by simp
      have HF := Lib.hid (FIN.out true (by rw [HIN.out, List.drop_of_length_le (by rw [HLS.out]; exact Nat.le_refl _)]; rfl) (fun _ => by rw [HXS.out, HLS.out, ← hsr.len, List.take_left]))
      go_wp2
      go_ret2
      exact HF.out

end Go.Proofs.Ytkoocipagndclaa
