/- Plain laws of how the document matches; walks: its In, mark, seen. -/
import Derived.Test.YtkoocipagndclaaR0
namespace Go.Proofs.Ytkoocipagndclaa
open Go.RowKit Go.Shelf

theorem inSets_len {run : List Itm} : ∀ {ss : List (List Int)} {ps : List Nat}, inSets run ss ps = true → ss.length ≤ ps.length
  | [], _, _ => by simp
  | s :: ss, [], h => by cases h
  | s :: ss, p :: ps, h => by
    rw [inSets_cons, Bool.and_eq_true] at h
    have := inSets_len h.2
    simp; omega
theorem upL_head {s : Nat → Bool} {n k p : Nat} {ps : List Nat} (h : upL s n k = p :: ps) : ps = upL s n (p + 1) := by
  induction hm : n - k generalizing k with
  | zero => rw [upL_end (by omega)] at h; cases h
  | succ m ih =>
    by_cases hs : s k = true
    · rw [upL_yes (by omega) hs] at h; cases h; rfl
    · rw [upL_no (by omega) (by simpa using hs)] at h; exact ih h (by omega)
theorem upL_drop {s : Nat → Bool} {n : Nat} {m : Nat} : ∀ {k p : Nat}, (upL s n k)[m]? = some p → (upL s n k).drop (m + 1) = upL s n (p + 1) := by
  induction m with
  | zero =>
    intro k p h
    rcases hu : upL s n k with _ | ⟨q, qs⟩
    · rw [hu] at h; cases h
    · rw [hu] at h; simp at h; subst h; simp; exact upL_head hu
  | succ m ih =>
    intro k p h
    rcases hu : upL s n k with _ | ⟨q, qs⟩
    · rw [hu] at h; cases h
    · have hq := upL_head hu
      rw [hu] at h
      simp only [List.getElem?_cons_succ] at h
      rw [List.drop_succ_cons]
      rw [hq] at h ⊢
      exact ih h
theorem upL_first {s : Nat → Bool} {n k : Nat} (h : k < n) (hs : s k = true) : (upL s n k)[0]? = some k := by rw [upL_yes h hs]; rfl
/-- A rule fits, as the document asks for it. -/
theorem fits_doc {run : List Itm} {s : Nat → Bool} {n k : Nat} {r : Rul} {back : List Nat} (h0 : r.inn ≠ []) {p : Nat} (hp : inSets run r.inn (upL s n k) = true → (upL s n k)[r.inn.length - 1]? = some p) :
    fits run r (upL s n k) back = (inSets run r.inn (upL s n k) && (inSets run r.ahead (upL s n (p + 1)) && inSets run r.back back)) := by
  unfold fits
  have he : r.inn.isEmpty = false := by cases h : r.inn with | nil => exact absurd h h0 | cons => rfl
  rw [he]
  cases hi : inSets run r.inn (upL s n k) with
  | false => simp
  | true =>
    have hl := inSets_len hi
    have hpos : 0 < r.inn.length := List.length_pos_iff.2 h0
    have hd := upL_drop (hp hi)
    rw [Nat.sub_add_cancel hpos] at hd
    rw [hd]
    cases ha : inSets run r.ahead (upL s n (p + 1)) with
    | false => simp
    | true =>
      have hl2 := inSets_len ha
      rw [← hd, List.length_drop] at hl2
      cases hb : inSets run r.back back with
      | false => simp
      | true =>
        have hl3 := inSets_len hb
        have e1 : decide (r.inn.length + r.ahead.length ≤ (upL s n k).length) = true := by rw [decide_eq_true_iff]; omega
        have e2 : decide (r.back.length ≤ back.length) = true := by rw [decide_eq_true_iff]; omega
        rw [e1, e2]; rfl
theorem fits_none {run : List Itm} {r : Rul} {fore back : List Nat} (h0 : r.inn = []) : fits run r fore back = false := by unfold fits; rw [h0]; rfl

set_option maxHeartbeats 400000 in
theorem qIn_c (A : Option Addr) (n c : Nat) (xs : List Int) (g : Int) (w : World) (h : Rd w (lo w.heap.size) A n xs) (hn : n ≤ 9223372036854775807) :
    Calls Try.prog 43 #[.slice A n c, .int .i64 g] w fun e w' => e = .returned (.bool (xs.contains g)) ∧ w = w' := by
  have HL := Lib.hid h.len
  go_enter Try.func43, Try.ntmps43
  go_wp2
  go_loop [5] (fun i => ∃ k : Nat, k ≤ n ∧ i = .int .i64 k ∧ ∀ (j : Nat) (x : Int), j < k → xs[j]? = some x → x ≠ g) (fun i => n - (intOf i).toNat)
  case atStart => exact ⟨0, by omega, rfl, fun j x hj => by omega⟩
  case round =>
    obtain ⟨k, hk, rfl, hno⟩ := hrel
    have HNO := Lib.hid hno; clear hno
    by_cases hlt : k < n
    · obtain ⟨b, o, rfl, _, hc⟩ := h.pos (by omega)
      obtain ⟨x, hx⟩ := at_some xs k (by have := HL.out; omega)
      obtain ⟨cs, rfl, hcc⟩ := hc k x hx
      have c0 := hcc 0 _ rfl
      rw [Nat.mul_one, Nat.add_zero] at c0
      have HX := Lib.hid hx; clear hx hc hcc
      have hkz : (0 : Int) ≤ (k : Int) := by omega
      have hkn : (k : Int) < (n : Int) := by omega
      by_cases hxg : x = g
      · subst hxg
        go_wp2
        go_ret
        refine ⟨ret_bool ?_, rfl⟩
        have hm := List.mem_of_getElem? HX.out
        simpa using hm
      · have e : (x == g) = false := by simpa using hxg
        go_wp2
        go_round
        case rel =>
          refine ⟨k + 1, by omega, by go_num, fun j y hj hy => ?_⟩
          by_cases ej : j = k
          · subst ej; rw [HX.out] at hy; injection hy with hy; subst hy; exact hxg
          · exact HNO.out j y (by omega) hy
        case measure => simp [intOf]; omega
    · go_wp2
      go_ret
      refine ⟨ret_bool ?_, rfl⟩
      have hm : ¬ g ∈ xs := fun hm => by
        obtain ⟨j, hj⟩ := List.mem_iff_getElem?.1 hm
        exact HNO.out j g (by have := (List.getElem?_eq_some_iff.1 hj).1; have := HL.out; omega) hj rfl
      simpa using hm

set_option maxRecDepth 100000 in
set_option maxHeartbeats 400000 in
theorem qmark_c (f : FV) (F : Fnt) (g : Int) (w : World) (hf : IsF w (lo w.heap.size) f F) :
    Calls Try.prog 56 #[.agg f.cells, .int .i64 g] w fun e w' => e = .returned (.bool (isMark F g)) ∧ Below w.heap.size w w' := by
  obtain ⟨hg, _, hd, _⟩ := hf
  have hl := hg.len
  have hd1 := hd.1
  have hd2 := hd.2
  unfold FV.cells
  by_cases h0 : g < 0
  · have e := isMark_out (F := F) (.inl h0)
    rw [e]; clear e hl
    have t0 : decide (0 ≤ g) = false := by simp; omega
    go_enter Try.func56, Try.ntmps56
    go_wp2
    go_ret
    exact ⟨rfl, (Below.refl _ _).alloc (Nat.le_refl _) _⟩
  · by_cases h1 : (f.gn : Int) ≤ g
    · have e := isMark_out (F := F) (g := g) (.inr (by omega))
      rw [e]; clear e hl
      have t0 : decide (0 ≤ g) = true := by simp; omega
      have t1 : decide (g < (f.gn : Int)) = false := by simp; omega
      go_enter Try.func56, Try.ntmps56
      go_wp2
      go_ret
      exact ⟨rfl, (Below.refl _ _).alloc (Nat.le_refl _) _⟩
    · obtain ⟨k, rfl⟩ : ∃ k : Nat, g = k := ⟨g.toNat, by omega⟩
      obtain ⟨b, o, ha, _, hc⟩ := hg.pos (by omega)
      obtain ⟨x, hx⟩ := at_some F.gly k (by omega)
      obtain ⟨cs, ⟨u0, u1, u3, u4, u5, A, n, c, u7, u8, rfl, _⟩, hcc⟩ := hc k x hx
      have c2 := hcc 2 _ rfl
      have lt0 := cell_lt c2
      dsimp only at lt0
      rw [isMark_in hx, ha]
      clear hx hc hcc hl
      have t0 : (0 : Int) ≤ (k : Int) := by omega
      have t1 : (k : Int) < (f.gn : Int) := by omega
      go_enter Try.func56, Try.ntmps56
      go_wp2
      go_ret
      exact ⟨rfl, (Below.refl _ _).alloc (Nat.le_refl _) _⟩


/-- The cells of a lookup. -/
abbrev lkc (lk : Lk) (A : Option Addr) (n c : Nat) : Array Value := #[.int .i64 lk.kind, .bool lk.ign, .slice A n c]
abbrev itv (it : Itm) : Array Value := #[.int .i64 it.g, .int .i64 it.c, .int .i64 it.f, .int .i64 it.a, .int .i64 it.x, .int .i64 it.y]
set_option maxRecDepth 100000 in
set_option maxHeartbeats 400000 in
theorem qseen_c (f : FV) (F : Fnt) (lk : Lk) (A : Option Addr) (n c : Nat) (it : Itm) (w : World) (hf : IsF w (lo w.heap.size) f F) :
    Calls Try.prog 42 #[.agg f.cells, .agg (lkc lk A n c), .agg (itv it)] w fun e w' => e = .returned (.bool (!(lk.ign && isMark F it.g))) ∧ Below w.heap.size w w' := by
  cases hi : lk.ign with
  | false =>
    unfold FV.cells lkc itv
    rw [hi]
    go_enter Try.func42, Try.ntmps42
    go_wp2
    go_ret
    exact ⟨rfl, below_lit _ _ (below_lit _ _ (below_lit _ _ (Below.refl _ _) _) _) _⟩
  | true =>
    have HM := Lib.hid fun (W : World) (h : IsF W (lo W.heap.size) f F) => qmark_c f F it.g W h
    unfold FV.cells at HM
    unfold FV.cells lkc itv
    rw [hi]
    go_enter Try.func42, Try.ntmps42
    go_wp2_with fail
    have b3 := below_lit _ _ (below_lit _ _ (below_lit _ _ (Below.refl w.heap.size w) (.cells #[.int .i64 f.u0, .slice f.ga f.gn f.gc, .slice f.ca f.cn f.cc, .slice f.la f.ln f.lc, .slice f.a4 f.n4 f.c4, .slice f.a5 f.n5 f.c5, .slice f.a6 f.n6 f.c6, .slice f.a7 f.n7 f.c7, .slice f.a8 f.n8 f.c8] 31)) (.cells #[.int .i64 lk.kind, .bool true, .slice A n c] 44)) (.cells #[.int .i64 it.g, .int .i64 it.c, .int .i64 it.f, .int .i64 it.a, .int .i64 it.x, .int .i64 it.y] 51)
    refine (HM.out _ (hf.call b3)).mono ?_
    rintro e w1 ⟨rfl, b1⟩
    go_wp2
    go_ret
    exact ⟨rfl, below_call b3 b1⟩

end Go.Proofs.Ytkoocipagndclaa
