/- What the walks of the document's rules stand on. -/
import Derived.Test.YtbjcbcdccekbkaaGreatA14
import Derived.Handy
import Derived.Deep.DeepCutAuto
import Derived.Deep.CutBlock
namespace Go.Proofs.YtbjcbcdccekbkaaGreat
open Go.RowKit Go.Shelf

theorem inSets_len {run : List Itm} : ∀ {ss : List (List Int)} {ps : List Nat}, inSets run ss ps = true → ss.length ≤ ps.length
  | [], _, _ => by simp
  | s :: ss, [], h => by cases h
  | s :: ss, p :: ps, h => by
    rw [inSets_cons, Bool.and_eq_true] at h
    have := inSets_len h.2
    simp; omega
theorem upL_head {s : Nat → Bool} {n k p : Nat} {ps : List Nat} (h : upL s n k = p :: ps) : ps = upL s n (p + 1) := by
  induction hm : n - k generalizing k with
  | zero => rw [upL_end (by omega)] at h; cases h
  | succ m ih =>
    by_cases hs : s k = true
    · rw [upL_yes (by omega) hs] at h; cases h; rfl
    · rw [upL_no (by omega) (by simpa using hs)] at h; exact ih h (by omega)
theorem upL_drop {s : Nat → Bool} {n : Nat} {m : Nat} : ∀ {k p : Nat}, (upL s n k)[m]? = some p → (upL s n k).drop (m + 1) = upL s n (p + 1) := by
  induction m with
  | zero =>
    intro k p h
    rcases hu : upL s n k with _ | ⟨q, qs⟩
    · rw [hu] at h; cases h
    · rw [hu] at h; simp at h; subst h; simp; exact upL_head hu
  | succ m ih =>
    intro k p h
    rcases hu : upL s n k with _ | ⟨q, qs⟩
    · rw [hu] at h; cases h
    · have hq := upL_head hu
      rw [hu] at h
      simp only [List.getElem?_cons_succ] at h
      rw [List.drop_succ_cons]
      rw [hq] at h ⊢
      exact ih h
theorem upL_first {s : Nat → Bool} {n k : Nat} (h : k < n) (hs : s k = true) : (upL s n k)[0]? = some k := by rw [upL_yes h hs]; rfl
/-- A rule fits, as the document asks for it. -/
theorem fits_doc {run : List Itm} {s : Nat → Bool} {n k : Nat} {r : Rul} {back : List Nat} (h0 : r.inn ≠ []) {p : Nat} (hp : inSets run r.inn (upL s n k) = true → (upL s n k)[r.inn.length - 1]? = some p) :
    fits run r (upL s n k) back = (inSets run r.inn (upL s n k) && (inSets run r.ahead (upL s n (p + 1)) && inSets run r.back back)) := by
  unfold fits
  have he : r.inn.isEmpty = false := by cases h : r.inn with | nil => exact absurd h h0 | cons => rfl
  rw [he]
  cases hi : inSets run r.inn (upL s n k) with
  | false => simp
  | true =>
    have hl := inSets_len hi
    have hpos : 0 < r.inn.length := List.length_pos_iff.2 h0
    have hd := upL_drop (hp hi)
    rw [Nat.sub_add_cancel hpos] at hd
    rw [hd]
    cases ha : inSets run r.ahead (upL s n (p + 1)) with
    | false => simp
    | true =>
      have hl2 := inSets_len ha
      rw [← hd, List.length_drop] at hl2
      cases hb : inSets run r.back back with
      | false => simp
      | true =>
        have hl3 := inSets_len hb
        have e1 : decide (r.inn.length + r.ahead.length ≤ (upL s n k).length) = true := by rw [decide_eq_true_iff]; omega
        have e2 : decide (r.back.length ≤ back.length) = true := by rw [decide_eq_true_iff]; omega
        rw [e1, e2]; rfl
theorem fits_none {run : List Itm} {r : Rul} {fore back : List Nat} (h0 : r.inn = []) : fits run r fore back = false := by unfold fits; rw [h0]; rfl

set_option maxHeartbeats 400000 in
theorem qIn_c (A : Option Addr) (n c : Nat) (xs : List Int) (g : Int) (w : World) (h : Rd w (lo w.heap.size) A n xs) (hn : n ≤ 9223372036854775807) :
    Calls Tryz.prog 69 #[.slice A n c, .int .i64 g] w fun e w' => e = .returned (.bool (xs.contains g)) ∧ w = w' := by
  have HL := Lib.hid h.len
  go_enter Tryz.func69, Tryz.ntmps69
  go_wp2
  go_loop [5] (fun i => ∃ k : Nat, k ≤ n ∧ i = .int .i64 k ∧ ∀ (j : Nat) (x : Int), j < k → xs[j]? = some x → x ≠ g) (fun i => n - (intOf i).toNat)
  case atStart => exact ⟨0, by omega, rfl, fun j x hj => by omega⟩
  case round =>
    obtain ⟨k, hk, rfl, hno⟩ := hrel
    have HNO := Lib.hid hno; clear hno
    by_cases hlt : k < n
    · obtain ⟨b, o, rfl, _, hc⟩ := h.pos (by omega)
      obtain ⟨x, hx⟩ := at_some xs k (by have := HL.out; omega)
      obtain ⟨cs, rfl, hcc⟩ := hc k x hx
      have c0 := hcc 0 _ rfl
      rw [Nat.mul_one, Nat.add_zero] at c0
      have HX := Lib.hid hx; clear hx hc hcc
      have hkz : (0 : Int) ≤ (k : Int) := by omega
      have hkn : (k : Int) < (n : Int) := by omega
      by_cases hxg : x = g
      · subst hxg
        go_wp2
        go_ret
        refine ⟨ret_bool ?_, rfl⟩
        have hm := List.mem_of_getElem? HX.out
        simpa using hm
      · have e : (x == g) = false := by simpa using hxg
        go_wp2
        go_round
        case rel =>
          refine ⟨k + 1, by omega, by go_num, fun j y hj hy => ?_⟩
          by_cases ej : j = k
          · subst ej; rw [HX.out] at hy; injection hy with hy; subst hy; exact hxg
          · exact HNO.out j y (by omega) hy
        case measure => simp [intOf]; omega
    · go_wp2
      go_ret
      refine ⟨ret_bool ?_, rfl⟩
      have hm : ¬ g ∈ xs := fun hm => by
        obtain ⟨j, hj⟩ := List.mem_iff_getElem?.1 hm
        exact HNO.out j g (by have := (List.getElem?_eq_some_iff.1 hj).1; have := HL.out; omega) hj rfl
      simpa using hm

set_option maxRecDepth 100000 in
set_option maxHeartbeats 400000 in
theorem qmark_c (f : FV) (F : Fnt) (g : Int) (w : World) (hf : IsF w (lo w.heap.size) f F) :
    Calls Tryz.prog 81 #[.agg f.cells, .int .i64 g] w fun e w' => e = .returned (.bool (isMark F g)) ∧ Below w.heap.size w w' := by
  obtain ⟨hg, _, hd, _⟩ := hf
  have hl := hg.len
  have hd1 := hd.1
  have hd2 := hd.2
  unfold FV.cells
  by_cases h0 : g < 0
  · have e := isMark_out (F := F) (.inl h0)
    rw [e]; clear e hl
    have t0 : decide (0 ≤ g) = false := by simp; omega
    go_enter Tryz.func81, Tryz.ntmps81
    go_wp2
    go_ret
    exact ⟨rfl, (Below.refl _ _).alloc (Nat.le_refl _) _⟩
  · by_cases h1 : (f.gn : Int) ≤ g
    · have e := isMark_out (F := F) (g := g) (.inr (by omega))
      rw [e]; clear e hl
      have t0 : decide (0 ≤ g) = true := by simp; omega
      have t1 : decide (g < (f.gn : Int)) = false := by simp; omega
      go_enter Tryz.func81, Tryz.ntmps81
      go_wp2
      go_ret
      exact ⟨rfl, (Below.refl _ _).alloc (Nat.le_refl _) _⟩
    · obtain ⟨k, rfl⟩ : ∃ k : Nat, g = k := ⟨g.toNat, by omega⟩
      obtain ⟨b, o, ha, _, hc⟩ := hg.pos (by omega)
      obtain ⟨x, hx⟩ := at_some F.gly k (by omega)
      obtain ⟨cs, ⟨u0, u1, u3, u4, u5, A, n, c, u7, u8, rfl, _⟩, hcc⟩ := hc k x hx
      have c2 := hcc 2 _ rfl
      have lt0 := cell_lt c2
      dsimp only at lt0
      rw [isMark_in hx, ha]
      clear hx hc hcc hl
      have t0 : (0 : Int) ≤ (k : Int) := by omega
      have t1 : (k : Int) < (f.gn : Int) := by omega
      go_enter Tryz.func81, Tryz.ntmps81
      go_wp2
      go_ret
      exact ⟨rfl, (Below.refl _ _).alloc (Nat.le_refl _) _⟩


/-- The cells of a lookup. -/
abbrev lkc (lk : Lk) (A : Option Addr) (n c : Nat) : Array Value := #[.int .i64 lk.kind, .bool lk.ign, .slice A n c]
abbrev itv (it : Itm) : Array Value := #[.int .i64 it.g, .int .i64 it.c, .int .i64 it.f, .int .i64 it.a, .int .i64 it.x, .int .i64 it.y]
set_option maxRecDepth 100000 in
set_option maxHeartbeats 400000 in
theorem qseen_c (f : FV) (F : Fnt) (lk : Lk) (A : Option Addr) (n c : Nat) (it : Itm) (w : World) (hf : IsF w (lo w.heap.size) f F) :
    Calls Tryz.prog 68 #[.agg f.cells, .agg (lkc lk A n c), .agg (itv it)] w fun e w' => e = .returned (.bool (!(lk.ign && isMark F it.g))) ∧ Below w.heap.size w w' := by
  cases hi : lk.ign with
  | false =>
    unfold FV.cells lkc itv
    rw [hi]
    go_enter Tryz.func68, Tryz.ntmps68
    go_wp2
    go_ret
    exact ⟨rfl, below_lit _ _ (below_lit _ _ (below_lit _ _ (Below.refl _ _) _) _) _⟩
  | true =>
    have HM := Lib.hid fun (W : World) (h : IsF W (lo W.heap.size) f F) => qmark_c f F it.g W h
    unfold FV.cells at HM
    unfold FV.cells lkc itv
    rw [hi]
    go_enter Tryz.func68, Tryz.ntmps68
    go_wp2_with fail
    have b3 := below_lit _ _ (below_lit _ _ (below_lit _ _ (Below.refl w.heap.size w) (.cells #[.int .i64 f.u0, .slice f.ga f.gn f.gc, .slice f.ca f.cn f.cc, .slice f.la f.ln f.lc, .slice f.a4 f.n4 f.c4, .slice f.a5 f.n5 f.c5, .slice f.a6 f.n6 f.c6, .slice f.a7 f.n7 f.c7, .slice f.a8 f.n8 f.c8] 31)) (.cells #[.int .i64 lk.kind, .bool true, .slice A n c] 51)) (.cells #[.int .i64 it.g, .int .i64 it.c, .int .i64 it.f, .int .i64 it.a, .int .i64 it.x, .int .i64 it.y] 57)
    refine (HM.out _ (hf.call b3)).mono ?_
    rintro e w1 ⟨rfl, b1⟩
    go_wp2
    go_ret
    exact ⟨rfl, below_call b3 b1⟩


theorem look_cells {w : World} {g : Nat} {lk : Lk} {A : Option Addr} {n c : Nat} (k : Bk w g 51 (lkc lk A n c)) : w.cell? ⟨g, 0, none⟩ = some (.int .i64 lk.kind) ∧ w.cell? ⟨g, 1, none⟩ = some (.bool lk.ign) ∧ w.cell? ⟨g, 2, none⟩ = some (.slice A n c) :=
  ⟨k.cell 0, k.cell 1, k.cell 2⟩
/-- The font and the lookup in variables, and a row of the call's own. -/
structure WK (B bf bl : Nat) (W0 W : World) (f : FV) (F : Fnt) (lk : Lk) (LA : Option Addr) (ln lc : Nat) (RA : Option Addr) (rn : Nat) (run : List Itm) (SA : Option Addr) (sn : Nat) (sets : List (List Int)) (A : Option Addr) (m c : Nat) (xs : List Nat) : Prop where
  hB : B ≤ W.heap.size
  lf : bf < B
  ll : bl < B
  kf : Bk W bf 31 f.cells
  kl : Bk W bl 51 (lkc lk LA ln lc)
  font : IsF W (lo B) f F
  hI : RdI W (lo B) RA rn run
  hS : RdV W (lo B) SA sn sets
  own : Ow 3 1 W B A m c (ic (natI xs))
  bw : Below B W0 W
section
variable {B bf bl : Nat} {W0 W W' : World} {f : FV} {F : Fnt} {lk : Lk} {LA : Option Addr} {ln lc : Nat} {RA : Option Addr} {rn : Nat} {run : List Itm} {SA : Option Addr} {sn : Nat} {sets : List (List Int)} {A A' : Option Addr} {m c m' c' : Nat} {xs xs' : List Nat}
theorem WK.app (h : WK B bf bl W0 W f F lk LA ln lc RA rn run SA sn sets A m c xs) (b : Below B W W') (o : Ow 3 1 W' B A' m' c' (ic (natI xs'))) : WK B bf bl W0 W' f F lk LA ln lc RA rn run SA sn sets A' m' c' xs' :=
  ⟨Nat.le_trans h.hB b.size, h.lf, h.ll, h.kf.below b h.lf, h.kl.below b h.ll, h.font.mono (fun _ h => h) (kept_below b), h.hI.mono (fun _ h => h) (kept_below b), h.hS.mono (fun _ h => h) (kept_below b), o, h.bw.trans b⟩
theorem WK.call (h : WK B bf bl W0 W f F lk LA ln lc RA rn run SA sn sets A m c xs) (b : Below W.heap.size W W') : WK B bf bl W0 W' f F lk LA ln lc RA rn run SA sn sets A m c xs := h.app (b.mono h.hB) (h.own.call b)
theorem WK.fontU (h : WK B bf bl W0 W f F lk LA ln lc RA rn run SA sn sets A m c xs) : IsF W (lo W.heap.size) f F := h.font.up h.hB
theorem WK.drewN_ (h : WK B bf bl W0 W f F lk LA ln lc RA rn run SA sn sets A m c xs) (d : Nat) : WK B bf bl W0 (W.drewN d) f F lk LA ln lc RA rn run SA sn sets A m c xs := h.call ⟨rfl, rfl, rfl, Nat.le_refl _, fun _ _ => rfl⟩
theorem WK.drew_ (h : WK B bf bl W0 W f F lk LA ln lc RA rn run SA sn sets A m c xs) : WK B bf bl W0 W.drew f F lk LA ln lc RA rn run SA sn sets A m c xs := h.call ⟨rfl, rfl, rfl, Nat.le_refl _, fun _ _ => rfl⟩
theorem WK.len (h : WK B bf bl W0 W f F lk LA ln lc RA rn run SA sn sets A m c xs) : xs.length = m := by have := h.own.rd.len; rw [natI_len] at this; exact this
end
theorem inSets_nil {run : List Itm} {ss : List (List Int)} (h : ss ≠ []) : inSets run ss [] = false := by cases ss with | nil => exact absurd rfl h | cons => rfl
theorem natI_app (xs ys : List Nat) : natI (xs ++ ys) = natI xs ++ natI ys := by simp [natI]
theorem qIn_d (A : Option Addr) (n c : Nat) (xs : List Int) (g : Int) (w : World) (h : Rd w (lo w.heap.size) A n xs) (hn : n ≤ 9223372036854775807) :
    Calls Tryz.prog 69 #[.slice A n c, .int .i64 g] w fun e w' => e = .returned (.bool (xs.contains g)) ∧ ∃ d, w' = w.drewN d := (qIn_c A n c xs g w h hn).mono fun _ _ ⟨he, hm⟩ => ⟨he, 0, hm.symm⟩

/-- What the walk tells. -/
def WPost (w : World) (run : List Itm) (sets : List (List Int)) (ps : List Nat) (e : Ending) (w' : World) : Prop :=
  ∃ A m c xs, e = .returned (.tuple #[.slice A m c, .bool (inSets run sets ps)]) ∧ Ow 3 1 w' w.heap.size A m c (ic (natI xs)) ∧ (inSets run sets ps = true → xs = ps.take sets.length) ∧ Below w.heap.size w w'

set_option maxRecDepth 100000 in
set_option maxHeartbeats 4000000 in
theorem qwalk_c (f : FV) (F : Fnt) (lk : Lk) (LA : Option Addr) (ln lc : Nat) (RA : Option Addr) (rn rc : Nat) (run : List Itm) (SA : Option Addr) (sn sc : Nat) (sets : List (List Int)) (R : Int → List Nat) (st i0 : Int) (w : World)
    (hf : IsF w (lo w.heap.size) f F) (hI : RdI w (lo w.heap.size) RA rn run) (hS : RdV w (lo w.heap.size) SA sn sets) (hrn : rn ≤ 1000000) (hsn : sn ≤ 1000000) (hst : st = 1 ∨ st = -1) (hi0 : -1 ≤ i0) (hi1 : i0 ≤ rn)
    (hR0 : ∀ i : Int, i < 0 ∨ (rn : Int) ≤ i → R i = []) (hR1 : ∀ k : Nat, k < rn → R k = if seenB F lk.ign run k then k :: R (k + st) else R (k + st)) :
    Calls Tryz.prog 70 #[.agg f.cells, .agg (lkc lk LA ln lc), .slice RA rn rc, .int .i64 i0, .int .i64 st, .slice SA sn sc] w (WPost w run sets (R i0)) := by
  have HR0 := Lib.hid hR0; have HR1 := Lib.hid hR1; have HLS := Lib.hid hS.len; have HLI := Lib.hid hI.len; have HST := Lib.hid hst
  have b0 : Below w.heap.size w ((w.alloc (.cells f.cells 31)).alloc (.cells (lkc lk LA ln lc) 51)) := below_lit _ _ (below_lit _ _ (Below.refl _ _) _) _
  have hs0 : WK ((w.alloc (.cells f.cells 31)).alloc (.cells (lkc lk LA ln lc) 51)).heap.size w.heap.size (w.alloc (.cells f.cells 31)).heap.size ((w.alloc (.cells f.cells 31)).alloc (.cells (lkc lk LA ln lc) 51)) (((w.alloc (.cells f.cells 31)).alloc (.cells (lkc lk LA ln lc) 51)).alloc (.cells #[] 3)) f F lk LA ln lc RA rn run SA sn sets (some ⟨((w.alloc (.cells f.cells 31)).alloc (.cells (lkc lk LA ln lc) 51)).heap.size, 0, none⟩) 0 0 [] :=
    have b1 : Below ((w.alloc (.cells f.cells 31)).alloc (.cells (lkc lk LA ln lc) 51)).heap.size ((w.alloc (.cells f.cells 31)).alloc (.cells (lkc lk LA ln lc) 51)) (((w.alloc (.cells f.cells 31)).alloc (.cells (lkc lk LA ln lc) 51)).alloc (.cells #[] 3)) := (Below.refl _ _).alloc (Nat.le_refl _) _
    ⟨b1.size, by simp; omega, by simp, ((Bk.new w 31 f.cells).alloc _).alloc _, (Bk.new (w.alloc (.cells f.cells 31)) 51 (lkc lk LA ln lc)).alloc _, (hf.call b0).mono (fun _ h => h) (kept_below b1), (hI.call b0).mono (fun _ h => h) (kept_below b1), (hS.call b0).mono (fun _ h => h) (kept_below b1), own_empty _ _ _, b1⟩
  have hrn' : rn ≤ 9223372036854775807 := by omega
  unfold FV.cells lkc at hs0 b0
  unfold FV.cells lkc
  go_enter Tryz.func70, Tryz.ntmps70
  go_wp2
  have HB0 := Lib.hid b0
  have hw0 := b0.size
  have hA : (some ⟨((w.alloc (.cells #[.int .i64 f.u0, .slice f.ga f.gn f.gc, .slice f.ca f.cn f.cc, .slice f.la f.ln f.lc, .slice f.a4 f.n4 f.c4, .slice f.a5 f.n5 f.c5, .slice f.a6 f.n6 f.c6, .slice f.a7 f.n7 f.c7, .slice f.a8 f.n8 f.c8] 31)).alloc (.cells #[.int .i64 lk.kind, .bool lk.ign, .slice LA ln lc] 51)).heap.size, 0, none⟩ : Option Addr) = some ⟨w.heap.size + 1 + 1, 0, none⟩ := by simp
  have hA2 : (w.alloc (.cells #[.int .i64 f.u0, .slice f.ga f.gn f.gc, .slice f.ca f.cn f.cc, .slice f.la f.ln f.lc, .slice f.a4 f.n4 f.c4, .slice f.a5 f.n5 f.c5, .slice f.a6 f.n6 f.c6, .slice f.a7 f.n7 f.c7, .slice f.a8 f.n8 f.c8] 31)).heap.size = w.heap.size + 1 := by simp
  rw [hA, hA2] at hs0
  clear hA hA2
  clear b0 hR0 hR1 hf hI hS
  generalize hW0 : (w.alloc (.cells #[.int .i64 f.u0, .slice f.ga f.gn f.gc, .slice f.ca f.cn f.cc, .slice f.la f.ln f.lc, .slice f.a4 f.n4 f.c4, .slice f.a5 f.n5 f.c5, .slice f.a6 f.n6 f.c6, .slice f.a7 f.n7 f.c7, .slice f.a8 f.n8 f.c8] 31)).alloc (.cells #[.int .i64 lk.kind, .bool lk.ign, .slice LA ln lc] 51) = W0 at hs0 hw0 HB0 ⊢
  generalize hbf : w.heap.size = bf at hs0 ⊢
  have HBF := Lib.hid hbf
  generalize hbl : bf + 1 = bl at hs0 ⊢
  clear hbl hW0
  go_loopw [14, 15] (fun s14 s15 wr => ∃ (A : Option Addr) (m c : Nat) (xs : List Nat) (i : Int), s14 = .slice A m c ∧ s15 = .int .i64 i ∧ -1 ≤ i ∧ i ≤ rn ∧ m ≤ sn ∧ R i0 = xs ++ R i ∧ inSets run sets (R i0) = inSets run (sets.drop m) (R i) ∧ WK W0.heap.size bf bl W0 wr f F lk LA ln lc RA rn run SA sn sets A m c xs) (fun _ i _ => (if st = 1 then (rn : Int) - intOf i else intOf i + 1).toNat)
  case atStart => exact ⟨_, 0, 0, [], i0, rfl, rfl, hi0, hi1, by omega, rfl, rfl, hs0⟩
  case round =>
    obtain ⟨A, m, c, xs, i, rfl, rfl, hia, hib, hms, hxs, hin, hsr⟩ := hrel
    have HXS := Lib.hid hxs; have HIN := Lib.hid hin
    clear hxs hin hs0
    have fin : ∀ b, inSets run sets (R i0) = b → (b = true → xs = (R i0).take sets.length) → WPost w run sets (R i0) (.returned (.tuple #[.slice A m c, .bool b])) wr := fun b hb ht =>
      ⟨A, m, c, xs, by rw [hb], hsr.own.lower (by rw [HBF.out]; rw [HBF.out] at hw0; exact hw0), fun h => ht (by rw [← hb, h]), HB0.out.trans (hsr.bw.mono (by rw [HBF.out]; rw [HBF.out] at hw0; exact hw0))⟩
    have FIN := Lib.hid fin
    clear fin
    by_cases hm : m < sn
    · have t0 : decide ((m : Int) < (sn : Int)) = true := by simp; omega
      have t0' : ((m : Int) == (sn : Int)) = false := by simp; omega
      by_cases h0 : i < 0
      · have t1 : decide (0 ≤ i) = false := by simp; omega
        have HF := Lib.hid (FIN.out false (by rw [HIN.out, HR0.out i (.inl h0)]; exact inSets_nil (fun h => by have := congrArg List.length h; rw [List.length_drop, HLS.out] at this; simp at this; omega)) (fun h => by cases h))
        go_wp2
        go_ret2
        exact HF.out
      · have t1 : decide (0 ≤ i) = true := by simp; omega
        by_cases h1 : (rn : Int) ≤ i
        · have t2 : decide (i < (rn : Int)) = false := by simp; omega
          have HF := Lib.hid (FIN.out false (by rw [HIN.out, HR0.out i (.inr h1)]; exact inSets_nil (fun h => by have := congrArg List.length h; rw [List.length_drop, HLS.out] at this; simp at this; omega)) (fun h => by cases h))
          go_wp2
          go_ret2
          exact HF.out
        · obtain ⟨k, rfl⟩ : ∃ k : Nat, i = k := ⟨i.toNat, by omega⟩
          have t2 : decide ((k : Int) < (rn : Int)) = true := by simp; omega
          have t2' : decide (k < rn) = true := by simp; omega
          have kz : (0 : Int) ≤ (k : Int) := by omega
          have kn : (k : Int) < (rn : Int) := by omega
          have hwr : wrap64 ((k : Int) + st) = (k : Int) + st := by rcases HST.out with h | h <;> subst h <;> unfold wrap64 <;> omega
          obtain ⟨it, hit⟩ := at_some run k (by have := HLI.out; omega)
          obtain ⟨rb, ro, rfl, _, hc⟩ := hsr.hI.pos (by omega)
          obtain ⟨cs, rfl, hcc⟩ := hc k it hit
          have x0 := hcc 0 _ rfl
          have x1 := hcc 1 _ rfl
          have x2 := hcc 2 _ rfl
          have x3 := hcc 3 _ rfl
          have x4 := hcc 4 _ rfl
          have x5 := hcc 5 _ rfl
          rw [Nat.add_zero] at x0
          have hgk := gAt_some hit
          have hR := HR1.out k (by omega)
          have hsb : seenB F lk.ign run k = !(lk.ign && isMark F it.g) := by unfold seenB; rw [hgk]
          rw [hsb] at hR
          have HR := Lib.hid hR; have HG := Lib.hid hgk
          have HCM := Lib.hid fun (W : World) (h : IsF W (lo W.heap.size) f F) => qseen_c f F lk LA ln lc it W h
          unfold FV.cells lkc itv at HCM
          clear hsb hR hgk hit hc hcc h0 h1
          generalize (!(lk.ign && isMark F it.g)) = sb at *
          have HS := Lib.hid fun (W : World) (b : Below wr.heap.size wr W) => (show W.cell? ⟨bf, 0, none⟩ = some (.int .i64 f.u0) ∧ W.cell? ⟨bf, 1, none⟩ = some (.slice f.ga f.gn f.gc) ∧ W.cell? ⟨bf, 2, none⟩ = some (.slice f.ca f.cn f.cc) ∧ W.cell? ⟨bf, 3, none⟩ = some (.slice f.la f.ln f.lc) ∧ W.cell? ⟨bf, 4, none⟩ = some (.slice f.a4 f.n4 f.c4) ∧ W.cell? ⟨bf, 5, none⟩ = some (.slice f.a5 f.n5 f.c5) ∧ W.cell? ⟨bf, 6, none⟩ = some (.slice f.a6 f.n6 f.c6) ∧ W.cell? ⟨bf, 7, none⟩ = some (.slice f.a7 f.n7 f.c7) ∧ W.cell? ⟨bf, 8, none⟩ = some (.slice f.a8 f.n8 f.c8) ∧ W.cell? ⟨bl, 0, none⟩ = some (.int .i64 lk.kind) ∧ W.cell? ⟨bl, 1, none⟩ = some (.bool lk.ign) ∧ W.cell? ⟨bl, 2, none⟩ = some (.slice LA ln lc) ∧ W.cell? ⟨rb, ro + k * 6, none⟩ = some (.int .i64 it.g) ∧ W.cell? ⟨rb, ro + k * 6 + 1, none⟩ = some (.int .i64 it.c) ∧ W.cell? ⟨rb, ro + k * 6 + 2, none⟩ = some (.int .i64 it.f) ∧ W.cell? ⟨rb, ro + k * 6 + 3, none⟩ = some (.int .i64 it.a) ∧ W.cell? ⟨rb, ro + k * 6 + 4, none⟩ = some (.int .i64 it.x) ∧ W.cell? ⟨rb, ro + k * 6 + 5, none⟩ = some (.int .i64 it.y) from by
            obtain ⟨z0, z1, z2, z3, z4, z5, z6, z7, z8⟩ := font_cells (hsr.call b).kf
            obtain ⟨l0, l1, l2⟩ := look_cells (hsr.call b).kl
            exact And.intro z0 (And.intro z1 (And.intro z2 (And.intro z3 (And.intro z4 (And.intro z5 (And.intro z6 (And.intro z7 (And.intro z8 (And.intro l0 (And.intro l1 (And.intro l2 (And.intro (cell_call x0 b) (And.intro (cell_call x1 b) (And.intro (cell_call x2 b) (And.intro (cell_call x3 b) (And.intro (cell_call x4 b) ((cell_call x5 b)))))))))))))))))))
          obtain ⟨y0, y1, y2, y3, y4, y5, y6, y7, y8⟩ := font_cells hsr.kf
          obtain ⟨l0, l1, l2⟩ := look_cells hsr.kl
          go_wp2
          go_region_held3 (fun w' => w'.cell? ⟨bf, 0, none⟩ = some (.int .i64 f.u0) ∧ w'.cell? ⟨bf, 1, none⟩ = some (.slice f.ga f.gn f.gc) ∧ w'.cell? ⟨bf, 2, none⟩ = some (.slice f.ca f.cn f.cc) ∧ w'.cell? ⟨bf, 3, none⟩ = some (.slice f.la f.ln f.lc) ∧ w'.cell? ⟨bf, 4, none⟩ = some (.slice f.a4 f.n4 f.c4) ∧ w'.cell? ⟨bf, 5, none⟩ = some (.slice f.a5 f.n5 f.c5) ∧ w'.cell? ⟨bf, 6, none⟩ = some (.slice f.a6 f.n6 f.c6) ∧ w'.cell? ⟨bf, 7, none⟩ = some (.slice f.a7 f.n7 f.c7) ∧ w'.cell? ⟨bf, 8, none⟩ = some (.slice f.a8 f.n8 f.c8) ∧ w'.cell? ⟨bl, 0, none⟩ = some (.int .i64 lk.kind) ∧ w'.cell? ⟨bl, 1, none⟩ = some (.bool lk.ign) ∧ w'.cell? ⟨bl, 2, none⟩ = some (.slice LA ln lc) ∧ w'.cell? ⟨rb, ro + k * 6, none⟩ = some (.int .i64 it.g) ∧ w'.cell? ⟨rb, ro + k * 6 + 1, none⟩ = some (.int .i64 it.c) ∧ w'.cell? ⟨rb, ro + k * 6 + 2, none⟩ = some (.int .i64 it.f) ∧ w'.cell? ⟨rb, ro + k * 6 + 3, none⟩ = some (.int .i64 it.a) ∧ w'.cell? ⟨rb, ro + k * 6 + 4, none⟩ = some (.int .i64 it.x) ∧ w'.cell? ⟨rb, ro + k * 6 + 5, none⟩ = some (.int .i64 it.y)) (first | ((with_reducible refine HS.out _ ?_); go_grown; done) | go_keep) (first
            | (go_at_call 68; (with_reducible refine (HCM.out _ ?_).mono ?_); exact hsr.drew_.fontU; rintro e w5 ⟨rfl, hb5⟩; have b5 := below_undrew hb5))
          have hs5 := hsr.call b5
          have x0 := cell_call x0 b5
          clear y0 y1 y2 y3 y4 y5 y6 y7 y8 l0 l1 l2 x1 x2 x3 x4 x5 HS HCM hsr hb5
          cases sb with
          | false =>
            go_wp2
            go_roundw
            case rel => exact ⟨A, m, c, xs, (k : Int) + st, rfl, rfl, by rcases HST.out with h | h <;> omega, by rcases HST.out with h | h <;> omega, hms, by rw [HXS.out, HR.out]; rfl, by rw [HIN.out, HR.out]; rfl, hs5⟩
            case measure => rcases HST.out with h | h <;> subst h <;> simp [intOf] <;> omega
          | true =>
            obtain ⟨s, hs⟩ := at_some sets m (by have := HLS.out; omega)
            obtain ⟨sb, so, rfl, _, hcs⟩ := hs5.hS.pos (by omega)
            obtain ⟨cs, ⟨SA', sn', sc', rfl, hSA, hSd⟩, hccs⟩ := hcs m s hs
            have s0 := hccs 0 _ rfl
            rw [Nat.mul_one, Nat.add_zero] at s0
            have hnx : inSets run sets (R i0) = (s.contains it.g && inSets run (sets.drop (m + 1)) (R ((k : Int) + st))) := by
              rw [HIN.out, HR.out]
              obtain ⟨h1, rfl⟩ := List.getElem?_eq_some_iff.1 hs
              rw [List.drop_eq_getElem_cons h1, if_pos rfl, inSets_cons, HG.out]
            have HNX := Lib.hid hnx
            have mz : (0 : Int) ≤ (m : Int) := by omega
            have mn : (m : Int) < (sn : Int) := by omega
            have HCI := Lib.hid fun (W : World) (h : Rd W (lo W.heap.size) SA' sn' s) => qIn_d SA' sn' sc' s it.g W h (Nat.le_trans hSd.1 hSd.2)
            have HRD := Lib.hid (hSA.mono (lo_mono hs5.hB) (Kept.refl _ _))
            clear hnx hs hcs hccs hSA
            generalize s.contains it.g = cb at *
            go_wp2
            go_quiet ((go_at_call 69; (first | (with_reducible refine quiet_d (HCI.out _ ?_)) | (with_reducible refine quiet_add_d (HCI.out _ ?_))); exact HRD.out))
            have hs6 := hs5.drewN_ nq
            clear HRD HCI hs5 x0 s0 b5
            generalize w5.drewN nq = w6 at hs6 ⊢
            cases cb with
            | false =>
              have HF : WPost w run sets (R i0) (.returned (.tuple #[.slice A m c, .bool false])) w6 := ⟨A, m, c, xs, by rw [HNX.out]; rfl, hs6.own.lower (by rw [HBF.out]; rw [HBF.out] at hw0; exact hw0), fun h => (by rw [HNX.out] at h; cases h), HB0.out.trans (hs6.bw.mono (by rw [HBF.out]; rw [HBF.out] at hw0; exact hw0))⟩
              have HF := Lib.hid HF
              go_wp2
              go_ret2
              exact HF.out
            | true =>
              have ho2 := hs6.own.alloc (.cells #[.int .i64 (k : Int)] 3)
              have hB2 : W0.heap.size ≤ (w6.alloc (.cells #[.int .i64 (k : Int)] 3)).heap.size := by have := hs6.hB; simp; omega
              have ba : Below W0.heap.size w6 (w6.alloc (.cells #[.int .i64 (k : Int)] 3)) := (Below.refl _ _).alloc hs6.hB _
              go_wp2_with (at_builtin; refine appP elt_int rfl _ _ rfl _ W0.heap.size _ _ _ _ _ _ _ [.int .i64 (k : Int)] (by rfl) (by rfl) ho2 (by rfl) (news_new _ _ _) (by simp [Value.oneCell']) (by omega) hB2 ?_; intro A' c' w7 ho' hg' hb' hat')
              have hs7 := hs6.app (ba.trans hb') (xs' := xs ++ [k]) (by rw [natI_app, ic_app]; exact ho')
              go_wp2
              go_roundw
              case rel => exact ⟨A', m + 1, c', xs ++ [k], (k : Int) + st, by go_num, rfl, by rcases HST.out with h | h <;> omega, by rcases HST.out with h | h <;> omega, by omega, by rw [HXS.out, HR.out]; simp, by rw [HNX.out]; rfl, hs7⟩
              case measure => rcases HST.out with h | h <;> subst h <;> simp [intOf] <;> omega
    · have hms' : m = sn := by omega
      subst hms'
      have t0 : decide ((m : Int) < (m : Int)) = false := by simp
      have HF := Lib.hid (FIN.out true (by rw [HIN.out, List.drop_of_length_le (by rw [HLS.out]; exact Nat.le_refl _)]; rfl) (fun _ => by rw [HXS.out, HLS.out, ← hsr.len, List.take_left]))
      go_wp2
      go_ret2
      exact HF.out


/-- The places from one on, and those ahead of one, by their numbers as ints. -/
def upR' (s : Nat → Bool) (n : Nat) (i : Int) : List Nat := if i < 0 then [] else upL s n i.toNat
def dnR' (s : Nat → Bool) (n : Nat) (i : Int) : List Nat := if (n : Int) ≤ i then [] else dnL s (i + 1).toNat
theorem upR_none (s : Nat → Bool) (n : Nat) (i : Int) (h : i < 0 ∨ (n : Int) ≤ i) : upR' s n i = [] := by
  unfold upR'; split
  · rfl
  · exact upL_end (by omega)
theorem upR_nat (s : Nat → Bool) (n k : Nat) : upR' s n (k : Int) = upL s n k := by unfold upR'; rw [if_neg (by omega), Int.toNat_natCast]
theorem upR_some (s : Nat → Bool) (n k : Nat) (h : k < n) : upR' s n k = if s k then k :: upR' s n (k + 1) else upR' s n (k + 1) := by
  rw [upR_nat, show (k : Int) + 1 = ((k + 1 : Nat) : Int) by omega, upR_nat, upL_step h]
theorem dnR_none (s : Nat → Bool) (n : Nat) (i : Int) (h : i < 0 ∨ (n : Int) ≤ i) : dnR' s n i = [] := by
  unfold dnR'; split
  · rfl
  · have : (i + 1).toNat = 0 := by omega
    rw [this]; rfl
theorem dnR_nat (s : Nat → Bool) (n k : Nat) (h : k ≤ n) : dnR' s n ((k : Int) + -1) = dnL s k := by
  unfold dnR'; rw [if_neg (by omega)]; congr 1; omega
theorem dnR_nat' (s : Nat → Bool) (n k : Nat) (h : k ≤ n) : dnR' s n ((k : Int) - 1) = dnL s k := by rw [show (k : Int) - 1 = (k : Int) + -1 from rfl, dnR_nat s n k h]
theorem dnR_some (s : Nat → Bool) (n k : Nat) (h : k < n) : dnR' s n k = if s k then k :: dnR' s n (k + -1) else dnR' s n (k + -1) := by
  rw [dnR_nat s n k (by omega)]
  unfold dnR'; rw [if_neg (by omega), show ((k : Int) + 1).toNat = k + 1 by omega]; rfl

theorem pb1 (p : Nat) : (-1 : Int) ≤ (p : Int) + 1 := by omega
theorem pb2 {p n : Nat} (h : p < n) : (p : Int) + 1 ≤ (n : Int) := by omega
theorem pb3 (p : Nat) : (-1 : Int) ≤ (p : Int) - 1 := by omega
theorem pb4 {p n : Nat} (h : p < n) : (p : Int) - 1 ≤ (n : Int) := by omega
/-- The cells of a rule. -/
abbrev rlc (x : Int) (A1 : Option Addr) (n1 c1 : Nat) (A2 : Option Addr) (n2 c2 : Nat) (A3 : Option Addr) (n3 c3 : Nat) (A4 : Option Addr) (n4 c4 : Nat) (A5 : Option Addr) (n5 c5 : Nat) : Array Value := #[.slice A1 n1 c1, .slice A2 n2 c2, .slice A3 n3 c3, .slice A4 n4 c4, .slice A5 n5 c5, .int .i64 x]
/-- The font, the lookup and the rule in variables, and the run. -/
structure MK (w W : World) (bf bl br : Nat) (f : FV) (F : Fnt) (lk : Lk) (LA : Option Addr) (ln lc : Nat) (r : Rul) (A1 : Option Addr) (n1 c1 : Nat) (A2 : Option Addr) (n2 c2 : Nat) (A3 : Option Addr) (n3 c3 : Nat) (A4 : Option Addr) (n4 c4 : Nat) (A5 : Option Addr) (n5 c5 : Nat) (RA : Option Addr) (rn : Nat) (run : List Itm) : Prop where
  kf : Bk W bf 31 f.cells
  kl : Bk W bl 51 (lkc lk LA ln lc)
  kr : Bk W br 66 (rlc r.x A1 n1 c1 A2 n2 c2 A3 n3 c3 A4 n4 c4 A5 n5 c5)
  hf : IsF W (lo W.heap.size) f F
  hI : RdI W (lo W.heap.size) RA rn run
  h1 : RdV W (lo W.heap.size) A1 n1 r.back
  h2 : RdV W (lo W.heap.size) A2 n2 r.inn
  h3 : RdV W (lo W.heap.size) A3 n3 r.ahead
  bw : Below w.heap.size w W
theorem MK.call {w W W' : World} {bf bl br : Nat} {f : FV} {F : Fnt} {lk : Lk} {LA : Option Addr} {ln lc : Nat} {r : Rul} {A1 : Option Addr} {n1 c1 : Nat} {A2 : Option Addr} {n2 c2 : Nat} {A3 : Option Addr} {n3 c3 : Nat} {A4 : Option Addr} {n4 c4 : Nat} {A5 : Option Addr} {n5 c5 : Nat} {RA : Option Addr} {rn : Nat} {run : List Itm} (h : MK w W bf bl br f F lk LA ln lc r A1 n1 c1 A2 n2 c2 A3 n3 c3 A4 n4 c4 A5 n5 c5 RA rn run) (b : Below W.heap.size W W') : MK w W' bf bl br f F lk LA ln lc r A1 n1 c1 A2 n2 c2 A3 n3 c3 A4 n4 c4 A5 n5 c5 RA rn run :=
  ⟨h.kf.call b, h.kl.call b, h.kr.call b, h.hf.call b, h.hI.call b, h.h1.call b, h.h2.call b, h.h3.call b, below_call h.bw b⟩

/-- What matches tells. -/
def FPost (w : World) (b : Bool) (ps : List Nat) (e : Ending) (w' : World) : Prop :=
  ∃ A m c, e = .returned (.tuple #[.slice A m c, .bool b]) ∧ (b = true → Ow 3 1 w' w.heap.size A m c (ic (natI ps))) ∧ Below w.heap.size w w'

set_option maxRecDepth 100000 in
set_option maxHeartbeats 4000000 in
theorem qmatches_c (f : FV) (F : Fnt) (lk : Lk) (LA : Option Addr) (ln lc : Nat) (r : Rul) (A1 : Option Addr) (n1 c1 : Nat) (A2 : Option Addr) (n2 c2 : Nat) (A3 : Option Addr) (n3 c3 : Nat) (A4 : Option Addr) (n4 c4 : Nat) (A5 : Option Addr) (n5 c5 : Nat) (RA : Option Addr) (rn rc : Nat) (run : List Itm) (k : Nat) (w : World)
    (hf : IsF w (lo w.heap.size) f F) (hI : RdI w (lo w.heap.size) RA rn run) (h1 : RdV w (lo w.heap.size) A1 n1 r.back) (h2 : RdV w (lo w.heap.size) A2 n2 r.inn) (h3 : RdV w (lo w.heap.size) A3 n3 r.ahead)
    (hrn : rn ≤ 1000000) (hn1 : n1 ≤ 1000000) (hn2 : n2 ≤ 1000000) (hn3 : n3 ≤ 1000000) (hk : k < rn) (hs : seenB F lk.ign run k = true) :
    Calls Tryz.prog 50 #[.agg f.cells, .agg (lkc lk LA ln lc), .agg (rlc r.x A1 n1 c1 A2 n2 c2 A3 n3 c3 A4 n4 c4 A5 n5 c5), .slice RA rn rc, .int .i64 (k : Int)] w (FPost w (fits run r (foreL F lk.ign run k) (backL F lk.ign run k)) ((foreL F lk.ign run k).take r.inn.length)) := by
  have HL2 := Lib.hid h2.len; have HLI := Lib.hid hI.len
  have b0 : Below w.heap.size w (((w.alloc (.cells f.cells 31)).alloc (.cells (lkc lk LA ln lc) 51)).alloc (.cells (rlc r.x A1 n1 c1 A2 n2 c2 A3 n3 c3 A4 n4 c4 A5 n5 c5) 66)) := below_lit _ _ (below_lit _ _ (below_lit _ _ (Below.refl _ _) _) _) _
  have hs0 : MK w (((w.alloc (.cells f.cells 31)).alloc (.cells (lkc lk LA ln lc) 51)).alloc (.cells (rlc r.x A1 n1 c1 A2 n2 c2 A3 n3 c3 A4 n4 c4 A5 n5 c5) 66)) w.heap.size (w.alloc (.cells f.cells 31)).heap.size ((w.alloc (.cells f.cells 31)).alloc (.cells (lkc lk LA ln lc) 51)).heap.size f F lk LA ln lc r A1 n1 c1 A2 n2 c2 A3 n3 c3 A4 n4 c4 A5 n5 c5 RA rn run :=
    ⟨((Bk.new w 31 f.cells).alloc _).alloc _, (Bk.new (w.alloc (.cells f.cells 31)) 51 (lkc lk LA ln lc)).alloc _, Bk.new _ _ _, hf.call b0, hI.call b0, h1.call b0, h2.call b0, h3.call b0, b0⟩
  have HC := Lib.hid fun (W : World) (SA : Option Addr) (sn sc : Nat) (sets : List (List Int)) (i : Int) (h1 : IsF W (lo W.heap.size) f F) (h2 : RdI W (lo W.heap.size) RA rn run) (h3 : RdV W (lo W.heap.size) SA sn sets) (h4 : sn ≤ 1000000) (h5 : -1 ≤ i) (h6 : i ≤ rn) => qwalk_c f F lk LA ln lc RA rn rc run SA sn sc sets (upR' (seenB F lk.ign run) rn) 1 i W h1 h2 h3 hrn h4 (.inl rfl) h5 h6 (upR_none _ _) (upR_some _ _)
  have HD := Lib.hid fun (W : World) (SA : Option Addr) (sn sc : Nat) (sets : List (List Int)) (i : Int) (h1 : IsF W (lo W.heap.size) f F) (h2 : RdI W (lo W.heap.size) RA rn run) (h3 : RdV W (lo W.heap.size) SA sn sets) (h4 : sn ≤ 1000000) (h5 : -1 ≤ i) (h6 : i ≤ rn) => qwalk_c f F lk LA ln lc RA rn rc run SA sn sc sets (dnR' (seenB F lk.ign run) rn) (-1) i W h1 h2 h3 hrn h4 (.inr rfl) h5 h6 (dnR_none _ _) (dnR_some _ _)
  unfold FV.cells lkc at HC HD
  unfold FV.cells lkc rlc at hs0 b0
  unfold FV.cells lkc rlc
  have HU : foreL F lk.ign run k = upL (seenB F lk.ign run) rn k := by unfold foreL; rw [hI.len]
  have HB : backL F lk.ign run k = dnL (seenB F lk.ign run) k := rfl
  rw [HU, HB]
  have hfirst : (upL (seenB F lk.ign run) rn k)[0]? = some k := upL_first hk hs
  generalize seenB F lk.ign run = s at *
  clear HU HB hf hI h1 h2 h3
  go_enter Tryz.func50, Tryz.ntmps50
  go_upto_region 1 with fail
  have hA1 : ((w.alloc (.cells #[.int .i64 f.u0, .slice f.ga f.gn f.gc, .slice f.ca f.cn f.cc, .slice f.la f.ln f.lc, .slice f.a4 f.n4 f.c4, .slice f.a5 f.n5 f.c5, .slice f.a6 f.n6 f.c6, .slice f.a7 f.n7 f.c7, .slice f.a8 f.n8 f.c8] 31)).alloc (.cells #[.int .i64 lk.kind, .bool lk.ign, .slice LA ln lc] 51)).heap.size = w.heap.size + 1 + 1 := by simp
  have hA2 : (w.alloc (.cells #[.int .i64 f.u0, .slice f.ga f.gn f.gc, .slice f.ca f.cn f.cc, .slice f.la f.ln f.lc, .slice f.a4 f.n4 f.c4, .slice f.a5 f.n5 f.c5, .slice f.a6 f.n6 f.c6, .slice f.a7 f.n7 f.c7, .slice f.a8 f.n8 f.c8] 31)).heap.size = w.heap.size + 1 := by simp
  rw [hA1, hA2] at hs0
  clear hA1 hA2 b0
  generalize ((w.alloc (.cells #[.int .i64 f.u0, .slice f.ga f.gn f.gc, .slice f.ca f.cn f.cc, .slice f.la f.ln f.lc, .slice f.a4 f.n4 f.c4, .slice f.a5 f.n5 f.c5, .slice f.a6 f.n6 f.c6, .slice f.a7 f.n7 f.c7, .slice f.a8 f.n8 f.c8] 31)).alloc (.cells #[.int .i64 lk.kind, .bool lk.ign, .slice LA ln lc] 51)).alloc (.cells #[.slice A1 n1 c1, .slice A2 n2 c2, .slice A3 n3 c3, .slice A4 n4 c4, .slice A5 n5 c5, .int .i64 r.x] 66) = W0 at hs0 ⊢
  generalize hbf : w.heap.size = bf at hs0 ⊢
  generalize bf + 1 + 1 = br at hs0 ⊢
  generalize bf + 1 = bl at hs0 ⊢
  have HBF := Lib.hid hbf
  clear hbf
  have k1 : W0.cell? ⟨br, 1, none⟩ = some (.slice A2 n2 c2) := hs0.kr.cell 1
  by_cases hz : n2 = 0
  · have hnil : r.inn = [] := List.eq_nil_of_length_eq_zero (by rw [HL2.out]; exact hz)
    have HF := Lib.hid (show fits run r (upL s rn k) (dnL s k) = false from fits_none hnil)
    subst hz
    clear HL2 HC HD hfirst hnil
    go_wp2
    go_ret2
    exact ⟨_, _, _, by rw [HF.out]; rfl, (fun h => by rw [HF.out] at h; cases h), hs0.bw⟩
  · have hne : r.inn ≠ [] := fun h => hz (by rw [← HL2.out, h]; rfl)
    have t0 : ((n2 : Int) == 0) = false := by simp; omega
    have t0' : (n2 == 0) = false := by simp; omega
    have HNE := Lib.hid hne
    have HFI := Lib.hid hfirst
    clear hne hfirst
    obtain ⟨y0, y1, y2, y3, y4, y5, y6, y7, y8⟩ := font_cells hs0.kf
    obtain ⟨l0, l1, l2⟩ := look_cells hs0.kl
    go_wp2_with fail
    clear y0 y1 y2 y3 y4 y5 y6 y7 y8 l0 l1 l2 k1
    with_reducible refine (HC.out _ _ _ _ _ _ hs0.hf hs0.hI hs0.h2 hn2 (by omega) (by omega)).mono ?_
    rintro e w1 ⟨A, m, c, xs, rfl, o1, hx1, b1⟩
    rw [upR_nat] at hx1 ⊢
    have hs1 := hs0.call b1
    have hsz := hs0.bw.size
    clear hs0 b1
    cases hb : inSets run r.inn (upL s rn k) with
    | false =>
      have HF := Lib.hid (show fits run r (upL s rn k) (dnL s k) = false by rw [fits_doc (p := 0) HNE.out (fun h => by rw [hb] at h; cases h), hb]; rfl)
      clear hx1 o1
      go_wp2
      go_ret2
      exact ⟨_, _, _, by rw [HF.out]; rfl, (fun h => by rw [HF.out] at h; cases h), hs1.bw⟩
    | true =>
      have hlen := inSets_len hb
      have hx := hx1 hb
      have hxl : xs.length = n2 := by rw [hx, List.length_take, HL2.out]; rw [HL2.out] at hlen; omega
      have hml := o1.rd.len
      rw [natI_len, hxl] at hml
      subst hml
      obtain ⟨q, hq⟩ : ∃ q : Nat, n2 = q + 1 := ⟨n2 - 1, by omega⟩
      obtain ⟨p, hp⟩ := at_some (upL s rn k) q (by rw [HL2.out] at hlen; omega)
      have hpx : xs[q]? = some p := by rw [hx, List.getElem?_take, if_pos (by rw [HL2.out]; omega)]; exact hp
      have h0x : xs[0]? = some k := by rw [hx, List.getElem?_take, if_pos (by rw [HL2.out]; omega)]; exact HFI.out
      have hpm := (upL_mem.1 (List.mem_of_getElem? hp)).2.1
      have hp5 : (-1 : Int) ≤ (p : Int) + 1 := pb1 p
      have hp6 : (p : Int) + 1 ≤ (rn : Int) := pb2 hpm
      have hk5 : (-1 : Int) ≤ (k : Int) - 1 := pb3 k
      have hk6 : (k : Int) - 1 ≤ (rn : Int) := pb4 hk
      obtain ⟨gi, rfl, _, _⟩ := o1.form (by omega)
      have g0 := o1.cell (j := 0) (x := .int .i64 (k : Int)) (by unfold ic; rw [List.getElem?_map, natI_at h0x]; rfl)
      have gq := o1.cell (j := q) (x := .int .i64 (p : Int)) (by unfold ic; rw [List.getElem?_map, natI_at hpx]; rfl)
      have HF := fits_doc (run := run) (s := s) (n := rn) (k := k) (r := r) (back := dnL s k) (p := p) HNE.out (fun _ => by rw [show r.inn.length - 1 = q by rw [HL2.out]; omega]; exact hp)
      rw [hb, Bool.true_and] at HF
      have qz : (0 : Int) ≤ (q : Int) := by omega
      have qn : (q : Int) < (n2 : Int) := by omega
      have hw1 : IntKind.i64.wrap ((n2 : Int) - 1) = (q : Int) := by rw [IntKind.wrap_i64]; omega
      have hw2 : wrap64 ((n2 : Int) - 1) = (q : Int) := by unfold wrap64; omega
      have hw3 : IntKind.i64.wrap ((p : Int) + 1) = (p : Int) + 1 := by rw [IntKind.wrap_i64]; omega
      have hw4 : wrap64 ((p : Int) + 1) = (p : Int) + 1 := by unfold wrap64; omega
      have hw5 : wrap64 ((k : Int) - 1) = (k : Int) - 1 := by unfold wrap64; omega
      have n2z : (0 : Int) < (n2 : Int) := by omega
      have kk : ((k : Int) != (k : Int)) = false := by simp
      have hcM : n2 ≤ 9223372036854775807 := by omega
      have HF := Lib.hid HF; have HX := Lib.hid hx; have HXL := Lib.hid hxl
      have HP := Lib.hid hpm
      clear hlen hx hxl hq hp hpx h0x hx1 hb HFI
      have HC3 := Lib.hid fun (W : World) (h1 : IsF W (lo W.heap.size) f F) (h2 : RdI W (lo W.heap.size) RA rn run) (h3 : RdV W (lo W.heap.size) A3 n3 r.ahead) => HC.out W A3 n3 c3 r.ahead ((p : Int) + 1) h1 h2 h3 hn3 hp5 hp6
      obtain ⟨y0, y1, y2, y3, y4, y5, y6, y7, y8⟩ := font_cells hs1.kf
      obtain ⟨l0, l1, l2⟩ := look_cells hs1.kl
      have k2 : w1.cell? ⟨br, 2, none⟩ = some (.slice A3 n3 c3) := hs1.kr.cell 2
      have HS := Lib.hid fun (W : World) (b : Below w1.heap.size w1 W) => (show W.cell? ⟨bf, 0, none⟩ = some (.int .i64 f.u0) ∧ W.cell? ⟨bf, 1, none⟩ = some (.slice f.ga f.gn f.gc) ∧ W.cell? ⟨bf, 2, none⟩ = some (.slice f.ca f.cn f.cc) ∧ W.cell? ⟨bf, 3, none⟩ = some (.slice f.la f.ln f.lc) ∧ W.cell? ⟨bf, 4, none⟩ = some (.slice f.a4 f.n4 f.c4) ∧ W.cell? ⟨bf, 5, none⟩ = some (.slice f.a5 f.n5 f.c5) ∧ W.cell? ⟨bf, 6, none⟩ = some (.slice f.a6 f.n6 f.c6) ∧ W.cell? ⟨bf, 7, none⟩ = some (.slice f.a7 f.n7 f.c7) ∧ W.cell? ⟨bf, 8, none⟩ = some (.slice f.a8 f.n8 f.c8) ∧ W.cell? ⟨bl, 0, none⟩ = some (.int .i64 lk.kind) ∧ W.cell? ⟨bl, 1, none⟩ = some (.bool lk.ign) ∧ W.cell? ⟨bl, 2, none⟩ = some (.slice LA ln lc) ∧ W.cell? ⟨br, 2, none⟩ = some (.slice A3 n3 c3) ∧ W.cell? ⟨gi, q, none⟩ = some (.int .i64 (p : Int)) from by
        obtain ⟨z0, z1, z2, z3, z4, z5, z6, z7, z8⟩ := font_cells (hs1.call b).kf
        obtain ⟨l0, l1, l2⟩ := look_cells (hs1.call b).kl
        exact And.intro z0 (And.intro z1 (And.intro z2 (And.intro z3 (And.intro z4 (And.intro z5 (And.intro z6 (And.intro z7 (And.intro z8 (And.intro l0 (And.intro l1 (And.intro l2 (And.intro (cell_call k2 b) ((cell_call gq b)))))))))))))))
      go_wp2
      go_region_held3 (fun w' => w'.cell? ⟨bf, 0, none⟩ = some (.int .i64 f.u0) ∧ w'.cell? ⟨bf, 1, none⟩ = some (.slice f.ga f.gn f.gc) ∧ w'.cell? ⟨bf, 2, none⟩ = some (.slice f.ca f.cn f.cc) ∧ w'.cell? ⟨bf, 3, none⟩ = some (.slice f.la f.ln f.lc) ∧ w'.cell? ⟨bf, 4, none⟩ = some (.slice f.a4 f.n4 f.c4) ∧ w'.cell? ⟨bf, 5, none⟩ = some (.slice f.a5 f.n5 f.c5) ∧ w'.cell? ⟨bf, 6, none⟩ = some (.slice f.a6 f.n6 f.c6) ∧ w'.cell? ⟨bf, 7, none⟩ = some (.slice f.a7 f.n7 f.c7) ∧ w'.cell? ⟨bf, 8, none⟩ = some (.slice f.a8 f.n8 f.c8) ∧ w'.cell? ⟨bl, 0, none⟩ = some (.int .i64 lk.kind) ∧ w'.cell? ⟨bl, 1, none⟩ = some (.bool lk.ign) ∧ w'.cell? ⟨bl, 2, none⟩ = some (.slice LA ln lc) ∧ w'.cell? ⟨br, 2, none⟩ = some (.slice A3 n3 c3) ∧ w'.cell? ⟨gi, q, none⟩ = some (.int .i64 (p : Int))) (first | ((with_reducible refine HS.out _ ?_); go_grown; done) | go_keep) (first
        | (go_at_call 70; (with_reducible refine (HC3.out _ ?_ ?_ ?_).mono ?_); exact hs1.hf; exact hs1.hI; exact hs1.h3; rintro e w2 ⟨A', m', c', xs', rfl, o2, hx2, hb2⟩; have b2 := below_undrew hb2))
      rw [show (p : Int) + 1 = ((p + 1 : Nat) : Int) by omega, upR_nat]
      have hs2 := hs1.call b2
      have o1' := o1.call b2
      clear y0 y1 y2 y3 y4 y5 y6 y7 y8 l0 l1 l2 k2 g0 gq HS hb2 hs1 o1 o2 hx2 b2
      generalize inSets run r.ahead (upL s rn (p + 1)) = ba at *
      obtain ⟨y0, y1, y2, y3, y4, y5, y6, y7, y8⟩ := font_cells hs2.kf
      obtain ⟨l0, l1, l2⟩ := look_cells hs2.kl
      have k0 : w2.cell? ⟨br, 0, none⟩ = some (.slice A1 n1 c1) := hs2.kr.cell 0
      go_wp2_with fail
      with_reducible refine (HD.out _ _ _ _ _ _ hs2.hf hs2.hI hs2.h1 hn1 hk5 hk6).mono ?_
      rintro e w3 ⟨A3', m3, c3', xs3, rfl, o3, hx3, b3⟩
      rw [dnR_nat' _ _ _ (Nat.le_of_lt hk)]
      have hs3 := hs2.call b3
      have o1'' := o1'.call b3
      clear y0 y1 y2 y3 y4 y5 y6 y7 y8 l0 l1 l2 k0 hs2 o1' o3 hx3 b3
      generalize inSets run r.back (dnL s k) = bb at *
      have fin : ∀ b, b = (ba && bb) → FPost w (fits run r (upL s rn k) (dnL s k)) ((upL s rn k).take r.inn.length) (.returned (.tuple #[.slice (some ⟨gi, 0, none⟩) n2 c, .bool b])) w3 := fun b hb =>
        ⟨some ⟨gi, 0, none⟩, n2, c, by rw [hb, HF.out], fun _ => by rw [← HX.out]; exact o1''.lower hsz, hs3.bw⟩
      have FIN := Lib.hid fin
      cases ba with
      | false =>
        go_wp2
        go_ret2
        exact FIN.out _ rfl
      | true =>
        go_wp2
        go_ret2
        exact FIN.out _ rfl


/-- May a match begin at a place, whatever the lookup's number is? -/
def begQ (F : Fnt) (n : Int) (run : List Itm) (k : Int) (forms : List Int) : Bool := match lkAt F n with | none => false | some lk => begL F lk.ign run k forms
theorem begQ_none {F : Fnt} {n : Int} {run : List Itm} {k : Int} {forms : List Int} (h : lkAt F n = none) : begQ F n run k forms = false := by unfold begQ; rw [h]
theorem begQ_some {F : Fnt} {n : Int} {lk : Lk} {run : List Itm} {k : Int} {forms : List Int} (h : lkAt F n = some lk) : begQ F n run k forms = begL F lk.ign run k forms := by unfold begQ; rw [h]
theorem lkAt_nat {F : Fnt} {q : Nat} {lk : Lk} (h : F.lks[q]? = some lk) : lkAt F (q : Int) = some lk := by unfold lkAt; rw [if_neg (by omega), Int.toNat_natCast]; exact h
theorem lkAt_out {F : Fnt} {n : Int} (h : n < 0 ∨ (F.lks.length : Int) ≤ n) : lkAt F n = none := by
  unfold lkAt; split
  · rfl
  · exact List.getElem?_eq_none (by omega)
theorem begL_no {F : Fnt} {ign : Bool} {run : List Itm} {k : Int} {forms : List Int} (h : k < 0 ∨ (run.length : Int) ≤ k) : begL F ign run k forms = false := by
  unfold begL
  rcases h with h | h
  · rw [show decide (0 ≤ k) = false by simp; omega]; rfl
  · rw [show decide (k < (run.length : Int)) = false by simp; omega]; simp
theorem begL_yes {F : Fnt} {ign : Bool} {run : List Itm} {k : Nat} {it : Itm} {forms : List Int} (h : run[k]? = some it) : begL F ign run (k : Int) forms = (!(ign && isMark F it.g) && (forms.isEmpty || forms.contains it.f)) := by
  have hl := (List.getElem?_eq_some_iff.1 h).1
  unfold begL seenB
  rw [Int.toNat_natCast, gAt_some h, fAt_some h, show decide (0 ≤ (k : Int)) = true by simp, show decide ((k : Int) < (run.length : Int)) = true by simp; exact hl]
  rfl
theorem qIn_b (A : Option Addr) (n c : Nat) (xs : List Int) (g : Int) (w : World) (h : Rd w (lo w.heap.size) A n xs) (hn : n ≤ 9223372036854775807) :
    Calls Tryz.prog 69 #[.slice A n c, .int .i64 g] w fun e w' => e = .returned (.bool (xs.contains g)) ∧ Below w.heap.size w w' := (qIn_c A n c xs g w h hn).mono fun _ _ ⟨he, hm⟩ => ⟨he, by rw [hm]; exact Below.refl _ _⟩
/-- The font in a variable, and the run. -/
structure LS' (w W : World) (bf : Nat) (f : FV) (F : Fnt) (RA : Option Addr) (rn : Nat) (run : List Itm) : Prop where
  kf : Bk W bf 31 f.cells
  hf : IsF W (lo W.heap.size) f F
  hI : RdI W (lo W.heap.size) RA rn run
  bw : Below w.heap.size w W
theorem LS'.call {w W W' : World} {bf : Nat} {f : FV} {F : Fnt} {RA : Option Addr} {rn : Nat} {run : List Itm} (h : LS' w W bf f F RA rn run) (b : Below W.heap.size W W') : LS' w W' bf f F RA rn run :=
  ⟨h.kf.call b, h.hf.call b, h.hI.call b, below_call h.bw b⟩
theorem LS'.new {w : World} {f : FV} {F : Fnt} {RA : Option Addr} {rn : Nat} {run : List Itm} (hf : IsF w (lo w.heap.size) f F) (hI : RdI w (lo w.heap.size) RA rn run) : LS' w (w.alloc (.cells f.cells 31)) w.heap.size f F RA rn run :=
  have b : Below w.heap.size w (w.alloc (.cells f.cells 31)) := (Below.refl _ _).alloc (Nat.le_refl _) _
  ⟨Bk.new _ _ _, hf.call b, hI.call b, b⟩

set_option maxRecDepth 100000 in
set_option maxHeartbeats 4000000 in
theorem qbegins_c (f : FV) (F : Fnt) (n : Int) (RA : Option Addr) (rn rc : Nat) (run : List Itm) (at' : Int) (FA : Option Addr) (fn fc : Nat) (forms : List Int) (w : World)
    (hf : IsF w (lo w.heap.size) f F) (hI : RdI w (lo w.heap.size) RA rn run) (hF : Rd w (lo w.heap.size) FA fn forms) (hrn : rn ≤ 1000000) (hfn : fn ≤ 9223372036854775807) :
    Calls Tryz.prog 49 #[.agg f.cells, .int .i64 n, .slice RA rn rc, .int .i64 at', .slice FA fn fc] w fun e w' => e = .returned (.bool (begQ F n run at' forms)) ∧ Below w.heap.size w w' := by
  have hs0 := LS'.new hf hI
  have hF := hF.call hs0.bw
  have hln := hs0.hf.2.1.len
  have hld := hs0.hf.2.2.2
  have hlnM : f.ln ≤ 9223372036854775807 := Nat.le_trans hld.1 hld.2
  have HLI := Lib.hid hI.len
  have HLF := Lib.hid hF.len
  obtain ⟨R, hR⟩ : ∃ R, R = begQ F n run at' forms := ⟨_, rfl⟩
  rw [← hR]
  have HR := Lib.hid hR
  unfold FV.cells at hs0 ⊢
  go_enter Tryz.func49, Tryz.ntmps49
  go_upto_region 1 with fail
  unfold FV.cells at hF
  generalize w.alloc (.cells #[.int .i64 f.u0, .slice f.ga f.gn f.gc, .slice f.ca f.cn f.cc, .slice f.la f.ln f.lc, .slice f.a4 f.n4 f.c4, .slice f.a5 f.n5 f.c5, .slice f.a6 f.n6 f.c6, .slice f.a7 f.n7 f.c7, .slice f.a8 f.n8 f.c8] 31) = w0 at hs0 hF ⊢
  generalize hbf : w.heap.size = bf at hs0 ⊢
  have FIN := Lib.hid fun (b : Bool) (h : b = R) (W : World) (hb : Below w0.heap.size w0 W) => (show Ending.returned (.bool b) = Ending.returned (.bool R) ∧ Below w.heap.size w W from ⟨ret_bool h, below_call hs0.bw hb⟩)
  have HLN := Lib.hid hln
  clear hf hI hR hld hln hbf
  have y3 := (font_cells hs0.kf).2.2.2.1
  by_cases h0 : n < 0
  · have t0 : decide (n < 0) = true := by simp; omega
    have HB := Lib.hid (show false = R by rw [HR.out, begQ_none (lkAt_out (.inl h0))])
    go_wp2
    go_ret
    exact FIN.out _ HB.out _ (Below.refl _ _)
  · have t0 : decide (n < 0) = false := by simp; omega
    by_cases h1 : (f.ln : Int) ≤ n
    · have t1 : decide ((f.ln : Int) ≤ n) = true := by simp; omega
      have HB := Lib.hid (show false = R by rw [HR.out, begQ_none (lkAt_out (.inr (by have := HLN.out; omega)))])
      go_wp2
      go_ret
      exact FIN.out _ HB.out _ (Below.refl _ _)
    · have t1 : decide ((f.ln : Int) ≤ n) = false := by simp; omega
      obtain ⟨q, rfl⟩ : ∃ q : Nat, n = q := ⟨n.toNat, by omega⟩
      have t1' : decide (f.ln ≤ q) = false := by simp; omega
      obtain ⟨lk, hlk⟩ := at_some F.lks q (by have := HLN.out; omega)
      have hq := begQ_some (run := run) (k := at') (forms := forms) (lkAt_nat hlk)
      by_cases h2 : at' < 0
      · have t2 : decide (at' < 0) = true := by simp; omega
        have HB := Lib.hid (show false = R by rw [HR.out, hq, begL_no (.inl h2)])
        clear hq
        go_wp2
        go_ret
        exact FIN.out _ HB.out _ (Below.refl _ _)
      · have t2 : decide (at' < 0) = false := by simp; omega
        by_cases h3 : (rn : Int) ≤ at'
        · have t3 : decide ((rn : Int) ≤ at') = true := by simp; omega
          have HB := Lib.hid (show false = R by rw [HR.out, hq, begL_no (.inr (by have := HLI.out; omega))])
          clear hq
          go_wp2
          go_ret
          exact FIN.out _ HB.out _ (Below.refl _ _)
        · have t3 : decide ((rn : Int) ≤ at') = false := by simp; omega
          obtain ⟨k, rfl⟩ : ∃ k : Nat, at' = k := ⟨at'.toNat, by omega⟩
          have t3' : decide (rn ≤ k) = false := by simp; omega
          obtain ⟨it, hit⟩ := at_some run k (by have := HLI.out; omega)
          rw [begL_yes hit] at hq
          have hR2 : R = (!(lk.ign && isMark F it.g) && (forms.isEmpty || forms.contains it.f)) := by rw [HR.out, hq]
          obtain ⟨rb, ro, rfl, _, hc⟩ := hs0.hI.pos (by omega)
          obtain ⟨cs, rfl, hcc⟩ := hc k it hit
          have x0 := hcc 0 _ rfl
          have x1 := hcc 1 _ rfl
          have x2 := hcc 2 _ rfl
          have x3 := hcc 3 _ rfl
          have x4 := hcc 4 _ rfl
          have x5 := hcc 5 _ rfl
          rw [Nat.add_zero] at x0
          obtain ⟨lb, lo', hla, _, hcl⟩ := hs0.hf.2.1.pos (by omega)
          obtain ⟨cs, ⟨LA, ln, lc, rfl, _, _⟩, hccl⟩ := hcl q lk hlk
          have g0 := hccl 0 _ rfl
          have g1 := hccl 1 _ rfl
          have g2 := hccl 2 _ rfl
          rw [Nat.add_zero] at g0
          have kz : (0 : Int) ≤ (k : Int) := by omega
          have kn : (k : Int) < (rn : Int) := by omega
          have qz : (0 : Int) ≤ (q : Int) := by omega
          have qn : (q : Int) < (f.ln : Int) := by omega
          have HCM := Lib.hid fun (W : World) (h : IsF W (lo W.heap.size) f F) => qseen_c f F lk LA ln lc it W h
          unfold FV.cells lkc itv at HCM
          have HCI := Lib.hid fun (W : World) (h : Rd W (lo W.heap.size) FA fn forms) => qIn_b FA fn fc forms it.f W h hfn
          have HLA := Lib.hid hla
          rw [hla] at y3 HCM
          clear hq hit hc hcc hlk hcl hccl h0 h1 h2 h3 hla HR
          generalize (!(lk.ign && isMark F it.g)) = sb at *
          have HS := Lib.hid fun (W : World) (b : Below w0.heap.size w0 W) => (show W.cell? ⟨bf, 0, none⟩ = some (.int .i64 f.u0) ∧ W.cell? ⟨bf, 1, none⟩ = some (.slice f.ga f.gn f.gc) ∧ W.cell? ⟨bf, 2, none⟩ = some (.slice f.ca f.cn f.cc) ∧ W.cell? ⟨bf, 3, none⟩ = some (.slice (some ⟨lb, lo', none⟩) f.ln f.lc) ∧ W.cell? ⟨bf, 4, none⟩ = some (.slice f.a4 f.n4 f.c4) ∧ W.cell? ⟨bf, 5, none⟩ = some (.slice f.a5 f.n5 f.c5) ∧ W.cell? ⟨bf, 6, none⟩ = some (.slice f.a6 f.n6 f.c6) ∧ W.cell? ⟨bf, 7, none⟩ = some (.slice f.a7 f.n7 f.c7) ∧ W.cell? ⟨bf, 8, none⟩ = some (.slice f.a8 f.n8 f.c8) ∧ W.cell? ⟨lb, lo' + q * 3, none⟩ = some (.int .i64 lk.kind) ∧ W.cell? ⟨lb, lo' + q * 3 + 1, none⟩ = some (.bool lk.ign) ∧ W.cell? ⟨lb, lo' + q * 3 + 2, none⟩ = some (.slice LA ln lc) ∧ W.cell? ⟨rb, ro + k * 6, none⟩ = some (.int .i64 it.g) ∧ W.cell? ⟨rb, ro + k * 6 + 1, none⟩ = some (.int .i64 it.c) ∧ W.cell? ⟨rb, ro + k * 6 + 2, none⟩ = some (.int .i64 it.f) ∧ W.cell? ⟨rb, ro + k * 6 + 3, none⟩ = some (.int .i64 it.a) ∧ W.cell? ⟨rb, ro + k * 6 + 4, none⟩ = some (.int .i64 it.x) ∧ W.cell? ⟨rb, ro + k * 6 + 5, none⟩ = some (.int .i64 it.y) from by
            obtain ⟨z0, z1, z2, z3, z4, z5, z6, z7, z8⟩ := font_cells (hs0.call b).kf
            rw [HLA.out] at z3
            exact And.intro z0 (And.intro z1 (And.intro z2 (And.intro z3 (And.intro z4 (And.intro z5 (And.intro z6 (And.intro z7 (And.intro z8 (And.intro (cell_call g0 b) (And.intro (cell_call g1 b) (And.intro (cell_call g2 b) (And.intro (cell_call x0 b) (And.intro (cell_call x1 b) (And.intro (cell_call x2 b) (And.intro (cell_call x3 b) (And.intro (cell_call x4 b) ((cell_call x5 b)))))))))))))))))))
          have hem : forms.isEmpty = decide (fn = 0) := by rw [← HLF.out]; cases forms <;> simp
          rw [hem] at hR2
          have HR2 := Lib.hid hR2
          clear hem hR2
          go_wp2
          clear y3 x0 x1 x2 x3 x4 x5 g0 g1 g2
          cases sb with
          | false =>
            have FIN := Lib.hid fun (b : Bool) (h : b = false) => FIN.out b (by rw [h, HR2.out]; rfl)
            clear HR2
            refine wp_region_held_drew (S := fun w' => w'.cell? ⟨bf, 0, none⟩ = some (.int .i64 f.u0) ∧ w'.cell? ⟨bf, 1, none⟩ = some (.slice f.ga f.gn f.gc) ∧ w'.cell? ⟨bf, 2, none⟩ = some (.slice f.ca f.cn f.cc) ∧ w'.cell? ⟨bf, 3, none⟩ = some (.slice (some ⟨lb, lo', none⟩) f.ln f.lc) ∧ w'.cell? ⟨bf, 4, none⟩ = some (.slice f.a4 f.n4 f.c4) ∧ w'.cell? ⟨bf, 5, none⟩ = some (.slice f.a5 f.n5 f.c5) ∧ w'.cell? ⟨bf, 6, none⟩ = some (.slice f.a6 f.n6 f.c6) ∧ w'.cell? ⟨bf, 7, none⟩ = some (.slice f.a7 f.n7 f.c7) ∧ w'.cell? ⟨bf, 8, none⟩ = some (.slice f.a8 f.n8 f.c8) ∧ w'.cell? ⟨lb, lo' + q * 3, none⟩ = some (.int .i64 lk.kind) ∧ w'.cell? ⟨lb, lo' + q * 3 + 1, none⟩ = some (.bool lk.ign) ∧ w'.cell? ⟨lb, lo' + q * 3 + 2, none⟩ = some (.slice LA ln lc) ∧ w'.cell? ⟨rb, ro + k * 6, none⟩ = some (.int .i64 it.g) ∧ w'.cell? ⟨rb, ro + k * 6 + 1, none⟩ = some (.int .i64 it.c) ∧ w'.cell? ⟨rb, ro + k * 6 + 2, none⟩ = some (.int .i64 it.f) ∧ w'.cell? ⟨rb, ro + k * 6 + 3, none⟩ = some (.int .i64 it.a) ∧ w'.cell? ⟨rb, ro + k * 6 + 4, none⟩ = some (.int .i64 it.x) ∧ w'.cell? ⟨rb, ro + k * 6 + 5, none⟩ = some (.int .i64 it.y)) (by kernel_rfl) ?_ (fun hHeld => ?_)
            · (with_reducible refine HS.out _ ?_); go_grown
            refine wpAnyH_take (i := 0) (v := ?_) (by simp only [List.getElem?_toArray, List.getElem?_cons_zero]; rfl) (by kernel_rfl) (by kernel_rfl) (by kernel_rfl) (by exact fun _ _ _ h => h) (Or.inl ⟨by rfl, ?_⟩) (by assumption) ?_
            rotate_left 1
            · intro w hSw; (try dsimp only at hSw); go_simp; try with_reducible rfl
            try simp only [Act.put, List.setIfInBounds_toArray, List.set_cons_zero, List.set_cons_succ]
            refine wpAnyH_take (i := 1) (v := ?_) (by simp only [List.getElem?_toArray, List.getElem?_cons_succ, List.getElem?_cons_zero]; rfl) (by kernel_rfl) (by kernel_rfl) (by kernel_rfl) (by exact fun _ _ _ h => h) (Or.inl ⟨by rfl, ?_⟩) (by assumption) ?_
            rotate_left 1
            · intro w hSw; (try dsimp only at hSw); go_simp; try with_reducible rfl
            try simp only [Act.put, List.setIfInBounds_toArray, List.set_cons_zero, List.set_cons_succ]
            refine wpAnyH_take (i := 2) (v := ?_) (by simp only [List.getElem?_toArray, List.getElem?_cons_succ, List.getElem?_cons_zero]; rfl) (by kernel_rfl) (by kernel_rfl) (by kernel_rfl) (by exact fun _ _ _ h => h) (Or.inl ⟨by rfl, ?_⟩) (by assumption) ?_
            rotate_left 1
            · intro w hSw; (try dsimp only at hSw); go_simp; try with_reducible rfl
            try simp only [Act.put, List.setIfInBounds_toArray, List.set_cons_zero, List.set_cons_succ]
            refine wpAnyH_take (i := 3) (v := ?_) (by simp only [List.getElem?_toArray, List.getElem?_cons_succ, List.getElem?_cons_zero]; rfl) (by kernel_rfl) (by kernel_rfl) (by kernel_rfl) (by exact fun _ _ _ h => h) (Or.inl ⟨by rfl, ?_⟩) (by assumption) ?_
            rotate_left 1
            · intro w hSw; (try dsimp only at hSw); go_simp; try with_reducible rfl
            try simp only [Act.put, List.setIfInBounds_toArray, List.set_cons_zero, List.set_cons_succ]
            refine wpAnyH_take (i := 4) (v := ?_) (by simp only [List.getElem?_toArray, List.getElem?_cons_succ, List.getElem?_cons_zero]; rfl) (by kernel_rfl) (by kernel_rfl) (by kernel_rfl) (by exact fun _ _ _ h => h) (Or.inl ⟨by rfl, ?_⟩) (by assumption) ?_
            rotate_left 1
            · intro w hSw; (try dsimp only at hSw); go_simp; try with_reducible rfl
            try simp only [Act.put, List.setIfInBounds_toArray, List.set_cons_zero, List.set_cons_succ]
            refine wpAnyH_take (i := 5) (v := ?_) (by simp only [List.getElem?_toArray, List.getElem?_cons_succ, List.getElem?_cons_zero]; rfl) (by kernel_rfl) (by kernel_rfl) (by kernel_rfl) (by exact fun _ _ _ h => h) (Or.inl ⟨by rfl, ?_⟩) (by assumption) ?_
            rotate_left 1
            · intro w hSw; (try dsimp only at hSw); go_simp; try with_reducible rfl
            try simp only [Act.put, List.setIfInBounds_toArray, List.set_cons_zero, List.set_cons_succ]
            refine wpAnyH_take (i := 6) (v := ?_) (by simp only [List.getElem?_toArray, List.getElem?_cons_succ, List.getElem?_cons_zero]; rfl) (by kernel_rfl) (by kernel_rfl) (by kernel_rfl) (by exact fun _ _ _ h => h) (Or.inl ⟨by rfl, ?_⟩) (by assumption) ?_
            rotate_left 1
            · intro w hSw; (try dsimp only at hSw); go_simp; try with_reducible rfl
            try simp only [Act.put, List.setIfInBounds_toArray, List.set_cons_zero, List.set_cons_succ]
            refine wpAnyH_take (i := 7) (v := ?_) (by simp only [List.getElem?_toArray, List.getElem?_cons_succ, List.getElem?_cons_zero]; rfl) (by kernel_rfl) (by kernel_rfl) (by kernel_rfl) (by exact fun _ _ _ h => h) (Or.inl ⟨by rfl, ?_⟩) (by assumption) ?_
            rotate_left 1
            · intro w hSw; (try dsimp only at hSw); go_simp; try with_reducible rfl
            try simp only [Act.put, List.setIfInBounds_toArray, List.set_cons_zero, List.set_cons_succ]
            refine wpAnyH_take (i := 8) (v := ?_) (by simp only [List.getElem?_toArray, List.getElem?_cons_succ, List.getElem?_cons_zero]; rfl) (by kernel_rfl) (by kernel_rfl) (by kernel_rfl) (by exact fun _ _ _ h => h) (Or.inl ⟨by rfl, ?_⟩) (by assumption) ?_
            rotate_left 1
            · intro w hSw; (try dsimp only at hSw); go_simp; try with_reducible rfl
            try simp only [Act.put, List.setIfInBounds_toArray, List.set_cons_zero, List.set_cons_succ]
            refine wpAnyH_take (i := 9) (v := ?_) (by simp only [List.getElem?_toArray, List.getElem?_cons_succ, List.getElem?_cons_zero]; rfl) (by kernel_rfl) (by kernel_rfl) (by kernel_rfl) (by exact fun _ _ _ h => h) (Or.inl ⟨by rfl, ?_⟩) (by assumption) ?_
            rotate_left 1
            · intro w hSw; (try dsimp only at hSw); go_simp; try with_reducible rfl
            try simp only [Act.put, List.setIfInBounds_toArray, List.set_cons_zero, List.set_cons_succ]
            as_aux_lemma =>
              refine wpAnyH_ready (rs := [10]) (by kernel_rfl) (by simp) ?_
              refine AllReadyH.cons rfl (fun K hK => ?_) AllReadyH.nil
              go_simp
              go_at_call 68
              (with_reducible refine (HCM.out _ ?_).mono ?_)
              · exact hs0.hf
              rintro e w1 ⟨rfl, hb1⟩
              have b1 := below_undrew hb1
              go_wp2_with fail
              refine hK.out _ _ ?_ (fun hHeld => ?_)
              · (with_reducible refine HS.out _ ?_); go_grown
              clear hK K
              try simp only [Act.put, List.setIfInBounds_toArray, List.set_cons_zero, List.set_cons_succ]
              refine wpAnyH_take (i := 11) (v := ?_) (by simp only [List.getElem?_toArray, List.getElem?_cons_succ, List.getElem?_cons_zero]; rfl) (by kernel_rfl) (by kernel_rfl) (by kernel_rfl) (by exact fun _ _ _ h => h) (Or.inl ⟨by rfl, ?_⟩) (by assumption) ?_
              rotate_left 1
              · intro w hSw; (try dsimp only at hSw); go_simp; try with_reducible rfl
              try simp only [Act.put, List.setIfInBounds_toArray, List.set_cons_zero, List.set_cons_succ]
              as_aux_lemma =>
                refine wpAnyH_take (i := 12) (v := undef) (by simp only [List.getElem?_toArray, List.getElem?_cons_succ, List.getElem?_cons_zero]; rfl) (by kernel_rfl) (by kernel_rfl) (by kernel_rfl) (by exact fun _ _ _ h => h) (Or.inr ⟨by rfl, rfl⟩) (by assumption) ?_
                try simp only [Act.put, List.setIfInBounds_toArray, List.set_cons_zero, List.set_cons_succ]
                refine wpAnyH_take (i := 13) (v := undef) (by simp only [List.getElem?_toArray, List.getElem?_cons_succ, List.getElem?_cons_zero]; rfl) (by kernel_rfl) (by kernel_rfl) (by kernel_rfl) (by exact fun _ _ _ h => h) (Or.inr ⟨by rfl, rfl⟩) (by assumption) ?_
                try simp only [Act.put, List.setIfInBounds_toArray, List.set_cons_zero, List.set_cons_succ]
                refine wpAnyH_take (i := 14) (v := undef) (by simp only [List.getElem?_toArray, List.getElem?_cons_succ, List.getElem?_cons_zero]; rfl) (by kernel_rfl) (by kernel_rfl) (by kernel_rfl) (by exact fun _ _ _ h => h) (Or.inr ⟨by rfl, rfl⟩) (by assumption) ?_
                try simp only [Act.put, List.setIfInBounds_toArray, List.set_cons_zero, List.set_cons_succ]
                refine wpAnyH_take (i := 15) (v := undef) (by simp only [List.getElem?_toArray, List.getElem?_cons_succ, List.getElem?_cons_zero]; rfl) (by kernel_rfl) (by kernel_rfl) (by kernel_rfl) (by exact fun _ _ _ h => h) (Or.inr ⟨by rfl, rfl⟩) (by assumption) ?_
                try simp only [Act.put, List.setIfInBounds_toArray, List.set_cons_zero, List.set_cons_succ]
                refine wpAnyH_take (i := 16) (v := undef) (by simp only [List.getElem?_toArray, List.getElem?_cons_succ, List.getElem?_cons_zero]; rfl) (by kernel_rfl) (by kernel_rfl) (by kernel_rfl) (by exact fun _ _ _ h => h) (Or.inr ⟨by rfl, rfl⟩) (by assumption) ?_
                try simp only [Act.put, List.setIfInBounds_toArray, List.set_cons_zero, List.set_cons_succ]
                refine wpAnyH_take (i := 17) (v := undef) (by simp only [List.getElem?_toArray, List.getElem?_cons_succ, List.getElem?_cons_zero]; rfl) (by kernel_rfl) (by kernel_rfl) (by kernel_rfl) (by exact fun _ _ _ h => h) (Or.inr ⟨by rfl, rfl⟩) (by assumption) ?_
                try simp only [Act.put, List.setIfInBounds_toArray, List.set_cons_zero, List.set_cons_succ]
                refine wpAnyH_take (i := 18) (v := undef) (by simp only [List.getElem?_toArray, List.getElem?_cons_succ, List.getElem?_cons_zero]; rfl) (by kernel_rfl) (by kernel_rfl) (by kernel_rfl) (by exact fun _ _ _ h => h) (Or.inr ⟨by rfl, rfl⟩) (by assumption) ?_
                try simp only [Act.put, List.setIfInBounds_toArray, List.set_cons_zero, List.set_cons_succ]
                refine wpAnyH_take (i := 19) (v := undef) (by simp only [List.getElem?_toArray, List.getElem?_cons_succ, List.getElem?_cons_zero]; rfl) (by kernel_rfl) (by kernel_rfl) (by kernel_rfl) (by exact fun _ _ _ h => h) (Or.inr ⟨by rfl, rfl⟩) (by assumption) ?_
                try simp only [Act.put, List.setIfInBounds_toArray, List.set_cons_zero, List.set_cons_succ]
                refine wpAnyH_take (i := 20) (v := undef) (by simp only [List.getElem?_toArray, List.getElem?_cons_succ, List.getElem?_cons_zero]; rfl) (by kernel_rfl) (by kernel_rfl) (by kernel_rfl) (by exact fun _ _ _ h => h) (Or.inr ⟨by rfl, rfl⟩) (by assumption) ?_
                try simp only [Act.put, List.setIfInBounds_toArray, List.set_cons_zero, List.set_cons_succ]
                refine wpAnyH_take (i := 21) (v := undef) (by simp only [List.getElem?_toArray, List.getElem?_cons_succ, List.getElem?_cons_zero]; rfl) (by kernel_rfl) (by kernel_rfl) (by kernel_rfl) (by exact fun _ _ _ h => h) (Or.inr ⟨by rfl, rfl⟩) (by assumption) ?_
                try simp only [Act.put, List.setIfInBounds_toArray, List.set_cons_zero, List.set_cons_succ]
                refine wpAnyH_take (i := 22) (v := undef) (by simp only [List.getElem?_toArray, List.getElem?_cons_succ, List.getElem?_cons_zero]; rfl) (by kernel_rfl) (by kernel_rfl) (by kernel_rfl) (by exact fun _ _ _ h => h) (Or.inr ⟨by rfl, rfl⟩) (by assumption) ?_
                try simp only [Act.put, List.setIfInBounds_toArray, List.set_cons_zero, List.set_cons_succ]
                refine wpAnyH_take (i := 23) (v := undef) (by simp only [List.getElem?_toArray, List.getElem?_cons_succ, List.getElem?_cons_zero]; rfl) (by kernel_rfl) (by kernel_rfl) (by kernel_rfl) (by exact fun _ _ _ h => h) (Or.inr ⟨by rfl, rfl⟩) (by assumption) ?_
                try simp only [Act.put, List.setIfInBounds_toArray, List.set_cons_zero, List.set_cons_succ]
                refine wpAnyH_take (i := 24) (v := ?_) (by simp only [List.getElem?_toArray, List.getElem?_cons_succ, List.getElem?_cons_zero]; rfl) (by kernel_rfl) (by kernel_rfl) (by kernel_rfl) (by exact fun _ _ _ h => h) (Or.inl ⟨by rfl, ?_⟩) (by assumption) ?_
                rotate_left 1
                · intro w hSw; (try dsimp only at hSw); go_simp; try with_reducible rfl
                try simp only [Act.put, List.setIfInBounds_toArray, List.set_cons_zero, List.set_cons_succ]
                refine wpAnyH_take (i := 25) (v := ?_) (by simp only [List.getElem?_toArray, List.getElem?_cons_succ, List.getElem?_cons_zero]; rfl) (by kernel_rfl) (by kernel_rfl) (by kernel_rfl) (by exact fun _ _ _ h => h) (Or.inl ⟨by rfl, ?_⟩) (by assumption) ?_
                rotate_left 1
                · intro w hSw; (try dsimp only at hSw); go_simp; try with_reducible rfl
                try simp only [Act.put, List.setIfInBounds_toArray, List.set_cons_zero, List.set_cons_succ]
                as_aux_lemma =>
                  refine wpAnyH_done (by kernel_rfl) ?_ _
                  go_wp2
                  go_ret
                  exact FIN.out _ rfl _ b1
          | true =>
            by_cases hz : fn = 0
            · subst hz
              have FIN := Lib.hid fun (b : Bool) (h : b = true) => FIN.out b (by rw [h, HR2.out]; rfl)
              clear HR2
              refine wp_region_held_drew (S := fun w' => w'.cell? ⟨bf, 0, none⟩ = some (.int .i64 f.u0) ∧ w'.cell? ⟨bf, 1, none⟩ = some (.slice f.ga f.gn f.gc) ∧ w'.cell? ⟨bf, 2, none⟩ = some (.slice f.ca f.cn f.cc) ∧ w'.cell? ⟨bf, 3, none⟩ = some (.slice (some ⟨lb, lo', none⟩) f.ln f.lc) ∧ w'.cell? ⟨bf, 4, none⟩ = some (.slice f.a4 f.n4 f.c4) ∧ w'.cell? ⟨bf, 5, none⟩ = some (.slice f.a5 f.n5 f.c5) ∧ w'.cell? ⟨bf, 6, none⟩ = some (.slice f.a6 f.n6 f.c6) ∧ w'.cell? ⟨bf, 7, none⟩ = some (.slice f.a7 f.n7 f.c7) ∧ w'.cell? ⟨bf, 8, none⟩ = some (.slice f.a8 f.n8 f.c8) ∧ w'.cell? ⟨lb, lo' + q * 3, none⟩ = some (.int .i64 lk.kind) ∧ w'.cell? ⟨lb, lo' + q * 3 + 1, none⟩ = some (.bool lk.ign) ∧ w'.cell? ⟨lb, lo' + q * 3 + 2, none⟩ = some (.slice LA ln lc) ∧ w'.cell? ⟨rb, ro + k * 6, none⟩ = some (.int .i64 it.g) ∧ w'.cell? ⟨rb, ro + k * 6 + 1, none⟩ = some (.int .i64 it.c) ∧ w'.cell? ⟨rb, ro + k * 6 + 2, none⟩ = some (.int .i64 it.f) ∧ w'.cell? ⟨rb, ro + k * 6 + 3, none⟩ = some (.int .i64 it.a) ∧ w'.cell? ⟨rb, ro + k * 6 + 4, none⟩ = some (.int .i64 it.x) ∧ w'.cell? ⟨rb, ro + k * 6 + 5, none⟩ = some (.int .i64 it.y)) (by kernel_rfl) ?_ (fun hHeld => ?_)
              · (with_reducible refine HS.out _ ?_); go_grown
              refine wpAnyH_take (i := 0) (v := ?_) (by simp only [List.getElem?_toArray, List.getElem?_cons_zero]; rfl) (by kernel_rfl) (by kernel_rfl) (by kernel_rfl) (by exact fun _ _ _ h => h) (Or.inl ⟨by rfl, ?_⟩) (by assumption) ?_
              rotate_left 1
              · intro w hSw; (try dsimp only at hSw); go_simp; try with_reducible rfl
              try simp only [Act.put, List.setIfInBounds_toArray, List.set_cons_zero, List.set_cons_succ]
              refine wpAnyH_take (i := 1) (v := ?_) (by simp only [List.getElem?_toArray, List.getElem?_cons_succ, List.getElem?_cons_zero]; rfl) (by kernel_rfl) (by kernel_rfl) (by kernel_rfl) (by exact fun _ _ _ h => h) (Or.inl ⟨by rfl, ?_⟩) (by assumption) ?_
              rotate_left 1
              · intro w hSw; (try dsimp only at hSw); go_simp; try with_reducible rfl
              try simp only [Act.put, List.setIfInBounds_toArray, List.set_cons_zero, List.set_cons_succ]
              refine wpAnyH_take (i := 2) (v := ?_) (by simp only [List.getElem?_toArray, List.getElem?_cons_succ, List.getElem?_cons_zero]; rfl) (by kernel_rfl) (by kernel_rfl) (by kernel_rfl) (by exact fun _ _ _ h => h) (Or.inl ⟨by rfl, ?_⟩) (by assumption) ?_
              rotate_left 1
              · intro w hSw; (try dsimp only at hSw); go_simp; try with_reducible rfl
              try simp only [Act.put, List.setIfInBounds_toArray, List.set_cons_zero, List.set_cons_succ]
              refine wpAnyH_take (i := 3) (v := ?_) (by simp only [List.getElem?_toArray, List.getElem?_cons_succ, List.getElem?_cons_zero]; rfl) (by kernel_rfl) (by kernel_rfl) (by kernel_rfl) (by exact fun _ _ _ h => h) (Or.inl ⟨by rfl, ?_⟩) (by assumption) ?_
              rotate_left 1
              · intro w hSw; (try dsimp only at hSw); go_simp; try with_reducible rfl
              try simp only [Act.put, List.setIfInBounds_toArray, List.set_cons_zero, List.set_cons_succ]
              refine wpAnyH_take (i := 4) (v := ?_) (by simp only [List.getElem?_toArray, List.getElem?_cons_succ, List.getElem?_cons_zero]; rfl) (by kernel_rfl) (by kernel_rfl) (by kernel_rfl) (by exact fun _ _ _ h => h) (Or.inl ⟨by rfl, ?_⟩) (by assumption) ?_
              rotate_left 1
              · intro w hSw; (try dsimp only at hSw); go_simp; try with_reducible rfl
              try simp only [Act.put, List.setIfInBounds_toArray, List.set_cons_zero, List.set_cons_succ]
              refine wpAnyH_take (i := 5) (v := ?_) (by simp only [List.getElem?_toArray, List.getElem?_cons_succ, List.getElem?_cons_zero]; rfl) (by kernel_rfl) (by kernel_rfl) (by kernel_rfl) (by exact fun _ _ _ h => h) (Or.inl ⟨by rfl, ?_⟩) (by assumption) ?_
              rotate_left 1
              · intro w hSw; (try dsimp only at hSw); go_simp; try with_reducible rfl
              try simp only [Act.put, List.setIfInBounds_toArray, List.set_cons_zero, List.set_cons_succ]
              refine wpAnyH_take (i := 6) (v := ?_) (by simp only [List.getElem?_toArray, List.getElem?_cons_succ, List.getElem?_cons_zero]; rfl) (by kernel_rfl) (by kernel_rfl) (by kernel_rfl) (by exact fun _ _ _ h => h) (Or.inl ⟨by rfl, ?_⟩) (by assumption) ?_
              rotate_left 1
              · intro w hSw; (try dsimp only at hSw); go_simp; try with_reducible rfl
              try simp only [Act.put, List.setIfInBounds_toArray, List.set_cons_zero, List.set_cons_succ]
              refine wpAnyH_take (i := 7) (v := ?_) (by simp only [List.getElem?_toArray, List.getElem?_cons_succ, List.getElem?_cons_zero]; rfl) (by kernel_rfl) (by kernel_rfl) (by kernel_rfl) (by exact fun _ _ _ h => h) (Or.inl ⟨by rfl, ?_⟩) (by assumption) ?_
              rotate_left 1
              · intro w hSw; (try dsimp only at hSw); go_simp; try with_reducible rfl
              try simp only [Act.put, List.setIfInBounds_toArray, List.set_cons_zero, List.set_cons_succ]
              refine wpAnyH_take (i := 8) (v := ?_) (by simp only [List.getElem?_toArray, List.getElem?_cons_succ, List.getElem?_cons_zero]; rfl) (by kernel_rfl) (by kernel_rfl) (by kernel_rfl) (by exact fun _ _ _ h => h) (Or.inl ⟨by rfl, ?_⟩) (by assumption) ?_
              rotate_left 1
              · intro w hSw; (try dsimp only at hSw); go_simp; try with_reducible rfl
              try simp only [Act.put, List.setIfInBounds_toArray, List.set_cons_zero, List.set_cons_succ]
              refine wpAnyH_take (i := 9) (v := ?_) (by simp only [List.getElem?_toArray, List.getElem?_cons_succ, List.getElem?_cons_zero]; rfl) (by kernel_rfl) (by kernel_rfl) (by kernel_rfl) (by exact fun _ _ _ h => h) (Or.inl ⟨by rfl, ?_⟩) (by assumption) ?_
              rotate_left 1
              · intro w hSw; (try dsimp only at hSw); go_simp; try with_reducible rfl
              try simp only [Act.put, List.setIfInBounds_toArray, List.set_cons_zero, List.set_cons_succ]
              as_aux_lemma =>
                refine wpAnyH_ready (rs := [10]) (by kernel_rfl) (by simp) ?_
                refine AllReadyH.cons rfl (fun K hK => ?_) AllReadyH.nil
                go_simp
                go_at_call 68
                (with_reducible refine (HCM.out _ ?_).mono ?_)
                · exact hs0.hf
                rintro e w1 ⟨rfl, hb1⟩
                have b1 := below_undrew hb1
                go_wp2_with fail
                refine hK.out _ _ ?_ (fun hHeld => ?_)
                · (with_reducible refine HS.out _ ?_); go_grown
                clear hK K
                try simp only [Act.put, List.setIfInBounds_toArray, List.set_cons_zero, List.set_cons_succ]
                refine wpAnyH_take (i := 11) (v := ?_) (by simp only [List.getElem?_toArray, List.getElem?_cons_succ, List.getElem?_cons_zero]; rfl) (by kernel_rfl) (by kernel_rfl) (by kernel_rfl) (by exact fun _ _ _ h => h) (Or.inl ⟨by rfl, ?_⟩) (by assumption) ?_
                rotate_left 1
                · intro w hSw; (try dsimp only at hSw); go_simp; try with_reducible rfl
                try simp only [Act.put, List.setIfInBounds_toArray, List.set_cons_zero, List.set_cons_succ]
                as_aux_lemma =>
                  refine wpAnyH_take (i := 12) (v := ?_) (by simp only [List.getElem?_toArray, List.getElem?_cons_succ, List.getElem?_cons_zero]; rfl) (by kernel_rfl) (by kernel_rfl) (by kernel_rfl) (by exact fun _ _ _ h => h) (Or.inl ⟨by rfl, ?_⟩) (by assumption) ?_
                  rotate_left 1
                  · intro w hSw; (try dsimp only at hSw); go_simp; try with_reducible rfl
                  try simp only [Act.put, List.setIfInBounds_toArray, List.set_cons_zero, List.set_cons_succ]
                  refine wpAnyH_take (i := 13) (v := ?_) (by simp only [List.getElem?_toArray, List.getElem?_cons_succ, List.getElem?_cons_zero]; rfl) (by kernel_rfl) (by kernel_rfl) (by kernel_rfl) (by exact fun _ _ _ h => h) (Or.inl ⟨by rfl, ?_⟩) (by assumption) ?_
                  rotate_left 1
                  · intro w hSw; (try dsimp only at hSw); go_simp; try with_reducible rfl
                  try simp only [Act.put, List.setIfInBounds_toArray, List.set_cons_zero, List.set_cons_succ]
                  refine wpAnyH_take (i := 14) (v := ?_) (by simp only [List.getElem?_toArray, List.getElem?_cons_succ, List.getElem?_cons_zero]; rfl) (by kernel_rfl) (by kernel_rfl) (by kernel_rfl) (by exact fun _ _ _ h => h) (Or.inl ⟨by rfl, ?_⟩) (by assumption) ?_
                  rotate_left 1
                  · intro w hSw; (try dsimp only at hSw); go_simp; try with_reducible rfl
                  try simp only [Act.put, List.setIfInBounds_toArray, List.set_cons_zero, List.set_cons_succ]
                  refine wpAnyH_take (i := 15) (v := ?_) (by simp only [List.getElem?_toArray, List.getElem?_cons_succ, List.getElem?_cons_zero]; rfl) (by kernel_rfl) (by kernel_rfl) (by kernel_rfl) (by exact fun _ _ _ h => h) (Or.inl ⟨by rfl, ?_⟩) (by assumption) ?_
                  rotate_left 1
                  · intro w hSw; (try dsimp only at hSw); go_simp; try with_reducible rfl
                  try simp only [Act.put, List.setIfInBounds_toArray, List.set_cons_zero, List.set_cons_succ]
                  refine wpAnyH_take (i := 16) (v := undef) (by simp only [List.getElem?_toArray, List.getElem?_cons_succ, List.getElem?_cons_zero]; rfl) (by kernel_rfl) (by kernel_rfl) (by kernel_rfl) (by exact fun _ _ _ h => h) (Or.inr ⟨by rfl, rfl⟩) (by assumption) ?_
                  try simp only [Act.put, List.setIfInBounds_toArray, List.set_cons_zero, List.set_cons_succ]
                  refine wpAnyH_take (i := 17) (v := undef) (by simp only [List.getElem?_toArray, List.getElem?_cons_succ, List.getElem?_cons_zero]; rfl) (by kernel_rfl) (by kernel_rfl) (by kernel_rfl) (by exact fun _ _ _ h => h) (Or.inr ⟨by rfl, rfl⟩) (by assumption) ?_
                  try simp only [Act.put, List.setIfInBounds_toArray, List.set_cons_zero, List.set_cons_succ]
                  refine wpAnyH_take (i := 18) (v := undef) (by simp only [List.getElem?_toArray, List.getElem?_cons_succ, List.getElem?_cons_zero]; rfl) (by kernel_rfl) (by kernel_rfl) (by kernel_rfl) (by exact fun _ _ _ h => h) (Or.inr ⟨by rfl, rfl⟩) (by assumption) ?_
                  try simp only [Act.put, List.setIfInBounds_toArray, List.set_cons_zero, List.set_cons_succ]
                  refine wpAnyH_take (i := 19) (v := undef) (by simp only [List.getElem?_toArray, List.getElem?_cons_succ, List.getElem?_cons_zero]; rfl) (by kernel_rfl) (by kernel_rfl) (by kernel_rfl) (by exact fun _ _ _ h => h) (Or.inr ⟨by rfl, rfl⟩) (by assumption) ?_
                  try simp only [Act.put, List.setIfInBounds_toArray, List.set_cons_zero, List.set_cons_succ]
                  refine wpAnyH_take (i := 20) (v := undef) (by simp only [List.getElem?_toArray, List.getElem?_cons_succ, List.getElem?_cons_zero]; rfl) (by kernel_rfl) (by kernel_rfl) (by kernel_rfl) (by exact fun _ _ _ h => h) (Or.inr ⟨by rfl, rfl⟩) (by assumption) ?_
                  try simp only [Act.put, List.setIfInBounds_toArray, List.set_cons_zero, List.set_cons_succ]
                  refine wpAnyH_take (i := 21) (v := undef) (by simp only [List.getElem?_toArray, List.getElem?_cons_succ, List.getElem?_cons_zero]; rfl) (by kernel_rfl) (by kernel_rfl) (by kernel_rfl) (by exact fun _ _ _ h => h) (Or.inr ⟨by rfl, rfl⟩) (by assumption) ?_
                  try simp only [Act.put, List.setIfInBounds_toArray, List.set_cons_zero, List.set_cons_succ]
                  refine wpAnyH_take (i := 22) (v := undef) (by simp only [List.getElem?_toArray, List.getElem?_cons_succ, List.getElem?_cons_zero]; rfl) (by kernel_rfl) (by kernel_rfl) (by kernel_rfl) (by exact fun _ _ _ h => h) (Or.inr ⟨by rfl, rfl⟩) (by assumption) ?_
                  try simp only [Act.put, List.setIfInBounds_toArray, List.set_cons_zero, List.set_cons_succ]
                  refine wpAnyH_take (i := 23) (v := ?_) (by simp only [List.getElem?_toArray, List.getElem?_cons_succ, List.getElem?_cons_zero]; rfl) (by kernel_rfl) (by kernel_rfl) (by kernel_rfl) (by exact fun _ _ _ h => h) (Or.inl ⟨by rfl, ?_⟩) (by assumption) ?_
                  rotate_left 1
                  · intro w hSw; (try dsimp only at hSw); go_simp; try with_reducible rfl
                  try simp only [Act.put, List.setIfInBounds_toArray, List.set_cons_zero, List.set_cons_succ]
                  refine wpAnyH_take (i := 24) (v := ?_) (by simp only [List.getElem?_toArray, List.getElem?_cons_succ, List.getElem?_cons_zero]; rfl) (by kernel_rfl) (by kernel_rfl) (by kernel_rfl) (by exact fun _ _ _ h => h) (Or.inl ⟨by rfl, ?_⟩) (by assumption) ?_
                  rotate_left 1
                  · intro w hSw; (try dsimp only at hSw); go_simp; try with_reducible rfl
                  try simp only [Act.put, List.setIfInBounds_toArray, List.set_cons_zero, List.set_cons_succ]
                  refine wpAnyH_take (i := 25) (v := ?_) (by simp only [List.getElem?_toArray, List.getElem?_cons_succ, List.getElem?_cons_zero]; rfl) (by kernel_rfl) (by kernel_rfl) (by kernel_rfl) (by exact fun _ _ _ h => h) (Or.inl ⟨by rfl, ?_⟩) (by assumption) ?_
                  rotate_left 1
                  · intro w hSw; (try dsimp only at hSw); go_simp; try with_reducible rfl
                  try simp only [Act.put, List.setIfInBounds_toArray, List.set_cons_zero, List.set_cons_succ]
                  as_aux_lemma =>
                    refine wpAnyH_done (by kernel_rfl) ?_ _
                    go_wp2
                    go_ret
                    exact FIN.out _ rfl _ b1
            · have e0 : ((fn : Int) == 0) = false := by simp; omega
              have e0' : (fn == 0) = false := by simp; omega
              have FIN := Lib.hid fun (b : Bool) (h : b = forms.contains it.f) => FIN.out b (by rw [h, HR2.out, show decide (fn = 0) = false by simp; omega]; rfl)
              generalize forms.contains it.f = fb at *
              clear HR2
              refine wp_region_held_drew (S := fun w' => w'.cell? ⟨bf, 0, none⟩ = some (.int .i64 f.u0) ∧ w'.cell? ⟨bf, 1, none⟩ = some (.slice f.ga f.gn f.gc) ∧ w'.cell? ⟨bf, 2, none⟩ = some (.slice f.ca f.cn f.cc) ∧ w'.cell? ⟨bf, 3, none⟩ = some (.slice (some ⟨lb, lo', none⟩) f.ln f.lc) ∧ w'.cell? ⟨bf, 4, none⟩ = some (.slice f.a4 f.n4 f.c4) ∧ w'.cell? ⟨bf, 5, none⟩ = some (.slice f.a5 f.n5 f.c5) ∧ w'.cell? ⟨bf, 6, none⟩ = some (.slice f.a6 f.n6 f.c6) ∧ w'.cell? ⟨bf, 7, none⟩ = some (.slice f.a7 f.n7 f.c7) ∧ w'.cell? ⟨bf, 8, none⟩ = some (.slice f.a8 f.n8 f.c8) ∧ w'.cell? ⟨lb, lo' + q * 3, none⟩ = some (.int .i64 lk.kind) ∧ w'.cell? ⟨lb, lo' + q * 3 + 1, none⟩ = some (.bool lk.ign) ∧ w'.cell? ⟨lb, lo' + q * 3 + 2, none⟩ = some (.slice LA ln lc) ∧ w'.cell? ⟨rb, ro + k * 6, none⟩ = some (.int .i64 it.g) ∧ w'.cell? ⟨rb, ro + k * 6 + 1, none⟩ = some (.int .i64 it.c) ∧ w'.cell? ⟨rb, ro + k * 6 + 2, none⟩ = some (.int .i64 it.f) ∧ w'.cell? ⟨rb, ro + k * 6 + 3, none⟩ = some (.int .i64 it.a) ∧ w'.cell? ⟨rb, ro + k * 6 + 4, none⟩ = some (.int .i64 it.x) ∧ w'.cell? ⟨rb, ro + k * 6 + 5, none⟩ = some (.int .i64 it.y)) (by kernel_rfl) ?_ (fun hHeld => ?_)
              · (with_reducible refine HS.out _ ?_); go_grown
              refine wpAnyH_take (i := 0) (v := ?_) (by simp only [List.getElem?_toArray, List.getElem?_cons_zero]; rfl) (by kernel_rfl) (by kernel_rfl) (by kernel_rfl) (by exact fun _ _ _ h => h) (Or.inl ⟨by rfl, ?_⟩) (by assumption) ?_
              rotate_left 1
              · intro w hSw; (try dsimp only at hSw); go_simp; try with_reducible rfl
              try simp only [Act.put, List.setIfInBounds_toArray, List.set_cons_zero, List.set_cons_succ]
              refine wpAnyH_take (i := 1) (v := ?_) (by simp only [List.getElem?_toArray, List.getElem?_cons_succ, List.getElem?_cons_zero]; rfl) (by kernel_rfl) (by kernel_rfl) (by kernel_rfl) (by exact fun _ _ _ h => h) (Or.inl ⟨by rfl, ?_⟩) (by assumption) ?_
              rotate_left 1
              · intro w hSw; (try dsimp only at hSw); go_simp; try with_reducible rfl
              try simp only [Act.put, List.setIfInBounds_toArray, List.set_cons_zero, List.set_cons_succ]
              refine wpAnyH_take (i := 2) (v := ?_) (by simp only [List.getElem?_toArray, List.getElem?_cons_succ, List.getElem?_cons_zero]; rfl) (by kernel_rfl) (by kernel_rfl) (by kernel_rfl) (by exact fun _ _ _ h => h) (Or.inl ⟨by rfl, ?_⟩) (by assumption) ?_
              rotate_left 1
              · intro w hSw; (try dsimp only at hSw); go_simp; try with_reducible rfl
              try simp only [Act.put, List.setIfInBounds_toArray, List.set_cons_zero, List.set_cons_succ]
              refine wpAnyH_take (i := 3) (v := ?_) (by simp only [List.getElem?_toArray, List.getElem?_cons_succ, List.getElem?_cons_zero]; rfl) (by kernel_rfl) (by kernel_rfl) (by kernel_rfl) (by exact fun _ _ _ h => h) (Or.inl ⟨by rfl, ?_⟩) (by assumption) ?_
              rotate_left 1
              · intro w hSw; (try dsimp only at hSw); go_simp; try with_reducible rfl
              try simp only [Act.put, List.setIfInBounds_toArray, List.set_cons_zero, List.set_cons_succ]
              refine wpAnyH_take (i := 4) (v := ?_) (by simp only [List.getElem?_toArray, List.getElem?_cons_succ, List.getElem?_cons_zero]; rfl) (by kernel_rfl) (by kernel_rfl) (by kernel_rfl) (by exact fun _ _ _ h => h) (Or.inl ⟨by rfl, ?_⟩) (by assumption) ?_
              rotate_left 1
              · intro w hSw; (try dsimp only at hSw); go_simp; try with_reducible rfl
              try simp only [Act.put, List.setIfInBounds_toArray, List.set_cons_zero, List.set_cons_succ]
              refine wpAnyH_take (i := 5) (v := ?_) (by simp only [List.getElem?_toArray, List.getElem?_cons_succ, List.getElem?_cons_zero]; rfl) (by kernel_rfl) (by kernel_rfl) (by kernel_rfl) (by exact fun _ _ _ h => h) (Or.inl ⟨by rfl, ?_⟩) (by assumption) ?_
              rotate_left 1
              · intro w hSw; (try dsimp only at hSw); go_simp; try with_reducible rfl
              try simp only [Act.put, List.setIfInBounds_toArray, List.set_cons_zero, List.set_cons_succ]
              refine wpAnyH_take (i := 6) (v := ?_) (by simp only [List.getElem?_toArray, List.getElem?_cons_succ, List.getElem?_cons_zero]; rfl) (by kernel_rfl) (by kernel_rfl) (by kernel_rfl) (by exact fun _ _ _ h => h) (Or.inl ⟨by rfl, ?_⟩) (by assumption) ?_
              rotate_left 1
              · intro w hSw; (try dsimp only at hSw); go_simp; try with_reducible rfl
              try simp only [Act.put, List.setIfInBounds_toArray, List.set_cons_zero, List.set_cons_succ]
              refine wpAnyH_take (i := 7) (v := ?_) (by simp only [List.getElem?_toArray, List.getElem?_cons_succ, List.getElem?_cons_zero]; rfl) (by kernel_rfl) (by kernel_rfl) (by kernel_rfl) (by exact fun _ _ _ h => h) (Or.inl ⟨by rfl, ?_⟩) (by assumption) ?_
              rotate_left 1
              · intro w hSw; (try dsimp only at hSw); go_simp; try with_reducible rfl
              try simp only [Act.put, List.setIfInBounds_toArray, List.set_cons_zero, List.set_cons_succ]
              refine wpAnyH_take (i := 8) (v := ?_) (by simp only [List.getElem?_toArray, List.getElem?_cons_succ, List.getElem?_cons_zero]; rfl) (by kernel_rfl) (by kernel_rfl) (by kernel_rfl) (by exact fun _ _ _ h => h) (Or.inl ⟨by rfl, ?_⟩) (by assumption) ?_
              rotate_left 1
              · intro w hSw; (try dsimp only at hSw); go_simp; try with_reducible rfl
              try simp only [Act.put, List.setIfInBounds_toArray, List.set_cons_zero, List.set_cons_succ]
              refine wpAnyH_take (i := 9) (v := ?_) (by simp only [List.getElem?_toArray, List.getElem?_cons_succ, List.getElem?_cons_zero]; rfl) (by kernel_rfl) (by kernel_rfl) (by kernel_rfl) (by exact fun _ _ _ h => h) (Or.inl ⟨by rfl, ?_⟩) (by assumption) ?_
              rotate_left 1
              · intro w hSw; (try dsimp only at hSw); go_simp; try with_reducible rfl
              try simp only [Act.put, List.setIfInBounds_toArray, List.set_cons_zero, List.set_cons_succ]
              as_aux_lemma =>
                refine wpAnyH_ready (rs := [10]) (by kernel_rfl) (by simp) ?_
                refine AllReadyH.cons rfl (fun K hK => ?_) AllReadyH.nil
                go_simp
                go_at_call 68
                (with_reducible refine (HCM.out _ ?_).mono ?_)
                · exact hs0.hf
                rintro e w1 ⟨rfl, hb1⟩
                have b1 := below_undrew hb1
                go_wp2_with fail
                refine hK.out _ _ ?_ (fun hHeld => ?_)
                · (with_reducible refine HS.out _ ?_); go_grown
                clear hK K
                try simp only [Act.put, List.setIfInBounds_toArray, List.set_cons_zero, List.set_cons_succ]
                refine wpAnyH_take (i := 11) (v := ?_) (by simp only [List.getElem?_toArray, List.getElem?_cons_succ, List.getElem?_cons_zero]; rfl) (by kernel_rfl) (by kernel_rfl) (by kernel_rfl) (by exact fun _ _ _ h => h) (Or.inl ⟨by rfl, ?_⟩) (by assumption) ?_
                rotate_left 1
                · intro w hSw; (try dsimp only at hSw); go_simp; try with_reducible rfl
                try simp only [Act.put, List.setIfInBounds_toArray, List.set_cons_zero, List.set_cons_succ]
                as_aux_lemma =>
                  refine wpAnyH_take (i := 12) (v := ?_) (by simp only [List.getElem?_toArray, List.getElem?_cons_succ, List.getElem?_cons_zero]; rfl) (by kernel_rfl) (by kernel_rfl) (by kernel_rfl) (by exact fun _ _ _ h => h) (Or.inl ⟨by rfl, ?_⟩) (by assumption) ?_
                  rotate_left 1
                  · intro w hSw; (try dsimp only at hSw); go_simp; try with_reducible rfl
                  try simp only [Act.put, List.setIfInBounds_toArray, List.set_cons_zero, List.set_cons_succ]
                  refine wpAnyH_take (i := 13) (v := ?_) (by simp only [List.getElem?_toArray, List.getElem?_cons_succ, List.getElem?_cons_zero]; rfl) (by kernel_rfl) (by kernel_rfl) (by kernel_rfl) (by exact fun _ _ _ h => h) (Or.inl ⟨by rfl, ?_⟩) (by assumption) ?_
                  rotate_left 1
                  · intro w hSw; (try dsimp only at hSw); go_simp; try with_reducible rfl
                  try simp only [Act.put, List.setIfInBounds_toArray, List.set_cons_zero, List.set_cons_succ]
                  refine wpAnyH_take (i := 14) (v := ?_) (by simp only [List.getElem?_toArray, List.getElem?_cons_succ, List.getElem?_cons_zero]; rfl) (by kernel_rfl) (by kernel_rfl) (by kernel_rfl) (by exact fun _ _ _ h => h) (Or.inl ⟨by rfl, ?_⟩) (by assumption) ?_
                  rotate_left 1
                  · intro w hSw; (try dsimp only at hSw); go_simp; try with_reducible rfl
                  try simp only [Act.put, List.setIfInBounds_toArray, List.set_cons_zero, List.set_cons_succ]
                  refine wpAnyH_take (i := 15) (v := ?_) (by simp only [List.getElem?_toArray, List.getElem?_cons_succ, List.getElem?_cons_zero]; rfl) (by kernel_rfl) (by kernel_rfl) (by kernel_rfl) (by exact fun _ _ _ h => h) (Or.inl ⟨by rfl, ?_⟩) (by assumption) ?_
                  rotate_left 1
                  · intro w hSw; (try dsimp only at hSw); go_simp; try with_reducible rfl
                  try simp only [Act.put, List.setIfInBounds_toArray, List.set_cons_zero, List.set_cons_succ]
                  refine wpAnyH_take (i := 16) (v := ?_) (by simp only [List.getElem?_toArray, List.getElem?_cons_succ, List.getElem?_cons_zero]; rfl) (by kernel_rfl) (by kernel_rfl) (by kernel_rfl) (by exact fun _ _ _ h => h) (Or.inl ⟨by rfl, ?_⟩) (by assumption) ?_
                  rotate_left 1
                  · intro w hSw; (try dsimp only at hSw); go_simp; try with_reducible rfl
                  try simp only [Act.put, List.setIfInBounds_toArray, List.set_cons_zero, List.set_cons_succ]
                  refine wpAnyH_take (i := 17) (v := ?_) (by simp only [List.getElem?_toArray, List.getElem?_cons_succ, List.getElem?_cons_zero]; rfl) (by kernel_rfl) (by kernel_rfl) (by kernel_rfl) (by exact fun _ _ _ h => h) (Or.inl ⟨by rfl, ?_⟩) (by assumption) ?_
                  rotate_left 1
                  · intro w hSw; (try dsimp only at hSw); go_simp; try with_reducible rfl
                  try simp only [Act.put, List.setIfInBounds_toArray, List.set_cons_zero, List.set_cons_succ]
                  refine wpAnyH_take (i := 18) (v := ?_) (by simp only [List.getElem?_toArray, List.getElem?_cons_succ, List.getElem?_cons_zero]; rfl) (by kernel_rfl) (by kernel_rfl) (by kernel_rfl) (by exact fun _ _ _ h => h) (Or.inl ⟨by rfl, ?_⟩) (by assumption) ?_
                  rotate_left 1
                  · intro w hSw; (try dsimp only at hSw); go_simp; try with_reducible rfl
                  try simp only [Act.put, List.setIfInBounds_toArray, List.set_cons_zero, List.set_cons_succ]
                  refine wpAnyH_take (i := 19) (v := ?_) (by simp only [List.getElem?_toArray, List.getElem?_cons_succ, List.getElem?_cons_zero]; rfl) (by kernel_rfl) (by kernel_rfl) (by kernel_rfl) (by exact fun _ _ _ h => h) (Or.inl ⟨by rfl, ?_⟩) (by assumption) ?_
                  rotate_left 1
                  · intro w hSw; (try dsimp only at hSw); go_simp; try with_reducible rfl
                  try simp only [Act.put, List.setIfInBounds_toArray, List.set_cons_zero, List.set_cons_succ]
                  refine wpAnyH_take (i := 20) (v := ?_) (by simp only [List.getElem?_toArray, List.getElem?_cons_succ, List.getElem?_cons_zero]; rfl) (by kernel_rfl) (by kernel_rfl) (by kernel_rfl) (by exact fun _ _ _ h => h) (Or.inl ⟨by rfl, ?_⟩) (by assumption) ?_
                  rotate_left 1
                  · intro w hSw; (try dsimp only at hSw); go_simp; try with_reducible rfl
                  try simp only [Act.put, List.setIfInBounds_toArray, List.set_cons_zero, List.set_cons_succ]
                  refine wpAnyH_take (i := 21) (v := ?_) (by simp only [List.getElem?_toArray, List.getElem?_cons_succ, List.getElem?_cons_zero]; rfl) (by kernel_rfl) (by kernel_rfl) (by kernel_rfl) (by exact fun _ _ _ h => h) (Or.inl ⟨by rfl, ?_⟩) (by assumption) ?_
                  rotate_left 1
                  · intro w hSw; (try dsimp only at hSw); go_simp; try with_reducible rfl
                  try simp only [Act.put, List.setIfInBounds_toArray, List.set_cons_zero, List.set_cons_succ]
                  as_aux_lemma =>
                    refine wpAnyH_ready (rs := [22]) (by kernel_rfl) (by simp) ?_
                    refine AllReadyH.cons rfl (fun K hK => ?_) AllReadyH.nil
                    go_simp
                    go_at_call 69
                    (with_reducible refine (HCI.out _ ?_).mono ?_)
                    · exact hF.call b1
                    rintro e w2 ⟨rfl, hb2⟩
                    have b2 := below_call b1 hb2
                    go_wp2_with fail
                    refine hK.out _ _ ?_ (fun hHeld => ?_)
                    · (with_reducible refine HS.out _ ?_); go_grown
                    clear hK K
                    try simp only [Act.put, List.setIfInBounds_toArray, List.set_cons_zero, List.set_cons_succ]
                    refine wpAnyH_take (i := 23) (v := ?_) (by simp only [List.getElem?_toArray, List.getElem?_cons_succ, List.getElem?_cons_zero]; rfl) (by kernel_rfl) (by kernel_rfl) (by kernel_rfl) (by exact fun _ _ _ h => h) (Or.inl ⟨by rfl, ?_⟩) (by assumption) ?_
                    rotate_left 1
                    · intro w hSw; (try dsimp only at hSw); go_simp; try with_reducible rfl
                    try simp only [Act.put, List.setIfInBounds_toArray, List.set_cons_zero, List.set_cons_succ]
                    refine wpAnyH_take (i := 24) (v := ?_) (by simp only [List.getElem?_toArray, List.getElem?_cons_succ, List.getElem?_cons_zero]; rfl) (by kernel_rfl) (by kernel_rfl) (by kernel_rfl) (by exact fun _ _ _ h => h) (Or.inl ⟨by rfl, ?_⟩) (by assumption) ?_
                    rotate_left 1
                    · intro w hSw; (try dsimp only at hSw); go_simp; try with_reducible rfl
                    try simp only [Act.put, List.setIfInBounds_toArray, List.set_cons_zero, List.set_cons_succ]
                    refine wpAnyH_take (i := 25) (v := ?_) (by simp only [List.getElem?_toArray, List.getElem?_cons_succ, List.getElem?_cons_zero]; rfl) (by kernel_rfl) (by kernel_rfl) (by kernel_rfl) (by exact fun _ _ _ h => h) (Or.inl ⟨by rfl, ?_⟩) (by assumption) ?_
                    rotate_left 1
                    · intro w hSw; (try dsimp only at hSw); go_simp; try with_reducible rfl
                    try simp only [Act.put, List.setIfInBounds_toArray, List.set_cons_zero, List.set_cons_succ]
                    as_aux_lemma =>
                      refine wpAnyH_done (by kernel_rfl) ?_ _
                      go_wp2
                      go_ret
                      exact FIN.out _ rfl _ b2

end Go.Proofs.YtbjcbcdccekbkaaGreat
