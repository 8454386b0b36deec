/- Walk: AttachAnchors. -/
import Derived.Test.YtbjcbcdccekbkaaR1
namespace Go.Proofs.Ytbjcbcdccekbkaa
open Go.RowKit Go.Shelf

/-- A font of a glyph without anything, and another one. -/
def twoF (g : Gly) : Fnt := ⟨[⟨false, []⟩, g], []⟩
theorem two_a0 (g : Gly) (k c : Int) : anchorL (twoF g) 0 k c = none := rfl
theorem two_out (g : Gly) (n k c : Int) (h : n ≠ 0) (h1 : n ≠ 1) : anchorL (twoF g) n k c = none := by
  unfold anchorL
  rw [ancOf_out]
  · rfl
  · by_cases h0 : n < 0
    · exact .inl h0
    · right; show ((2 : Nat) : Int) ≤ n; omega
abbrev gz : List Value := [.string ⟨#[]⟩, .int .i64 0, .bool false, .slice none 0 0, .slice none 0 0, .slice none 0 0, .slice none 0 0, .slice none 0 0, .slice none 0 0]
theorem two_isf {w : World} {u0 u1 u3 u4 u5 u7 u8 : Value} {A : Option Addr} {n c : Nat} {g : Gly} (hA : RdA w (lo w.heap.size) A n g.anc) (hd : Hd n c) (W : World) (b : Nat) (hb : Below w.heap.size w W)
    (hk : Bk W b 46 #[.string ⟨#[]⟩, .int .i64 0, .bool false, .slice none 0 0, .slice none 0 0, .slice none 0 0, .slice none 0 0, .slice none 0 0, .slice none 0 0, u0, u1, .bool g.mark, u3, u4, u5, .slice A n c, u7, u8]) :
    IsF W (lo W.heap.size) ⟨0, some ⟨b, 0, none⟩, 2, 2, none, 0, 0, none, 0, 0, none, 0, 0, none, 0, 0, none, 0, 0, none, 0, 0, none, 0, 0⟩ (twoF g) := by
  refine ⟨sle_bk hk hk.lt _ rfl fun i x hx => ?_, SlE.nil, hd_of (by show 2 ≤ 9; omega), hd_of (by show 0 ≤ 9; omega)⟩
  match i, hx with
  | 0, hx => injection hx with hx; subst hx; exact ⟨gz, ⟨.string ⟨#[]⟩, .int .i64 0, .slice none 0 0, .slice none 0 0, .slice none 0 0, none, 0, 0, .slice none 0 0, .slice none 0 0, rfl, SlE.nil, hd_of (by omega)⟩, fun j v hv => by match j, hv with | 0, hv => exact hv | 1, hv => exact hv | 2, hv => exact hv | 3, hv => exact hv | 4, hv => exact hv | 5, hv => exact hv | 6, hv => exact hv | 7, hv => exact hv | 8, hv => exact hv⟩
  | 1, hx => injection hx with hx; subst hx; exact ⟨[u0, u1, .bool g.mark, u3, u4, u5, .slice A n c, u7, u8], ⟨u0, u1, u3, u4, u5, A, n, c, u7, u8, rfl, hA.mono (lo_mono hb.size) (kept_below hb), hd⟩, fun j v hv => by match j, hv with | 0, hv => exact hv | 1, hv => exact hv | 2, hv => exact hv | 3, hv => exact hv | 4, hv => exact hv | 5, hv => exact hv | 6, hv => exact hv | 7, hv => exact hv | 8, hv => exact hv⟩

set_option maxRecDepth 100000 in
set_option maxHeartbeats 4000000 in
theorem attachAnchors_walk (cs : Array Value) (g : Gly) (kind class' : Int) (w : World) (hg : EGly w (lo w.heap.size) cs.toList g) (hwf : (Lit.int .i64 kind).wf = true) :
    Calls Try.prog 5 #[.agg cs, .int .i64 kind, .int .i64 class'] w (TP w) := by
  obtain ⟨u0, u1, u3, u4, u5, A, n, c, u7, u8, hcs, hA, hd⟩ := hg
  have hcs : cs = #[u0, u1, .bool g.mark, u3, u4, u5, .slice A n c, u7, u8] := Array.toList_inj.1 hcs
  subst hcs
  have hnM : n ≤ 9223372036854775807 := Nat.le_trans hd.1 hd.2
  by_cases h1000 : 1000 < n
  · have t1 : decide ((1000 : Int) < (n : Int)) = true := by simp; omega
    go_enter Try.func5, Try.ntmps5
    go_wp2
    go_ret
    exact ⟨rfl, (Below.refl _ _).alloc (Nat.le_refl _) _⟩
  · have t1 : decide ((1000 : Int) < (n : Int)) = false := by simp; omega
    go_enter Try.func5, Try.ntmps5
    go_wp2_with fail
    obtain ⟨W3, hW3⟩ : ∃ X, X = (((w.alloc (.cells #[u0, u1, .bool g.mark, u3, u4, u5, .slice A n c, u7, u8] 46)).alloc (.cells #[.string ⟨#[]⟩, .int .i64 0, .bool false, .slice none 0 0, .slice none 0 0, .slice none 0 0, .slice none 0 0, .slice none 0 0, .slice none 0 0, u0, u1, .bool g.mark, u3, u4, u5, .slice A n c, u7, u8] 46)).alloc (.cells #[.int .i64 0, .slice (some ⟨w.heap.size + 1, 0, none⟩) 2 2, .slice none 0 0, .slice none 0 0, .slice none 0 0, .slice none 0 0, .slice none 0 0, .slice none 0 0, .slice none 0 0] 31)) := ⟨_, rfl⟩
    have b3 : Below w.heap.size w W3 := by rw [hW3]; exact below_lit _ _ (below_lit _ _ (below_lit _ _ (Below.refl _ _) _) _) _
    have kg : Bk W3 (w.heap.size + 1) 46 #[.string ⟨#[]⟩, .int .i64 0, .bool false, .slice none 0 0, .slice none 0 0, .slice none 0 0, .slice none 0 0, .slice none 0 0, .slice none 0 0, u0, u1, .bool g.mark, u3, u4, u5, .slice A n c, u7, u8] := by
      have q := Bk.new (w.alloc (.cells #[u0, u1, .bool g.mark, u3, u4, u5, .slice A n c, u7, u8] 46)) 46 #[.string ⟨#[]⟩, .int .i64 0, .bool false, .slice none 0 0, .slice none 0 0, .slice none 0 0, .slice none 0 0, .slice none 0 0, .slice none 0 0, u0, u1, .bool g.mark, u3, u4, u5, .slice A n c, u7, u8]
      rw [World.size_alloc] at q
      rw [hW3]; exact q.alloc _
    have kf : Bk W3 (w.heap.size + 1 + 1) 31 #[.int .i64 0, .slice (some ⟨w.heap.size + 1, 0, none⟩) 2 2, .slice none 0 0, .slice none 0 0, .slice none 0 0, .slice none 0 0, .slice none 0 0, .slice none 0 0, .slice none 0 0] := by
      have q := Bk.new ((w.alloc (.cells #[u0, u1, .bool g.mark, u3, u4, u5, .slice A n c, u7, u8] 46)).alloc (.cells #[.string ⟨#[]⟩, .int .i64 0, .bool false, .slice none 0 0, .slice none 0 0, .slice none 0 0, .slice none 0 0, .slice none 0 0, .slice none 0 0, u0, u1, .bool g.mark, u3, u4, u5, .slice A n c, u7, u8] 46)) 31 #[.int .i64 0, .slice (some ⟨w.heap.size + 1, 0, none⟩) 2 2, .slice none 0 0, .slice none 0 0, .slice none 0 0, .slice none 0 0, .slice none 0 0, .slice none 0 0, .slice none 0 0]
      rw [World.size_alloc, World.size_alloc] at q
      rw [hW3]; exact q
    have hf3 := two_isf hA hd W3 _ b3 kg
    rw [← hW3]
    clear hW3 kg hA
    generalize hbf : w.heap.size + 1 + 1 = bf at *
    generalize hbg : w.heap.size + 1 = bg at *
    obtain ⟨f, hfd⟩ : ∃ f : FV, f = ⟨0, some ⟨bg, 0, none⟩, 2, 2, none, 0, 0, none, 0, 0, none, 0, 0, none, 0, 0, none, 0, 0, none, 0, 0, none, 0, 0⟩ := ⟨_, rfl⟩
    rw [← hfd] at hf3
    have kf3 : Bk W3 bf 31 f.cells := by rw [hfd]; exact kf
    have HFD := Lib.hid hfd
    clear kf hbf hbg
    have hrange : -9223372036854775808 ≤ kind ∧ kind ≤ 9223372036854775807 := by
      simp only [Lit.wf, IntKind.min, IntKind.max, IntKind.signed, IntKind.bits, Bool.and_eq_true, decide_eq_true_eq, if_true] at hwf
      omega
    clear hwf
    have HO := Lib.hid fun (W : World) (h : IsF W (lo W.heap.size) f (twoF g)) => anchor_c f (twoF g) 1 kind class' W h
    have HP := Lib.hid fun (W : World) (h : IsF W (lo W.heap.size) f (twoF g)) => ranchor_c f (twoF g) 1 kind class' W h
    simp only [ancV_u] at HO HP
    generalize anchorL (twoF g) 1 kind class' = o1 at *
    generalize ax o1 = x1 at *
    generalize ay o1 = y1 at *
    generalize o1.isSome = p1 at *
    have HC := Lib.hid (HO.out W3 hf3)
    rw [HFD.out] at HC
    unfold FV.cells at HC
    refine HC.out.mono ?_
    rintro e w4 ⟨rfl, b4⟩
    clear HC
    have kf4 := kf3.call b4
    have hf4 := hf3.call b4
    have bw4 := below_call b3 b4
    clear kf3 hf3 b3 b4
    obtain ⟨y0, y1', y2, y3, y4, y5, y6, y7, y8⟩ := font_cells kf4
    rw [HFD.out] at y0 y1' y2 y3 y4 y5 y6 y7 y8
    dsimp only at y0 y1' y2 y3 y4 y5 y6 y7 y8
    go_wp2_with fail
    clear y0 y1' y2 y3 y4 y5 y6 y7 y8
    have HC := Lib.hid (HP.out w4 hf4)
    rw [HFD.out] at HC
    unfold FV.cells at HC
    refine HC.out.mono ?_
    rintro e w5 ⟨rfl, b5⟩
    clear HC
    have kf5 := kf4.call b5
    have hf5 := hf4.call b5
    have bw5 := below_call bw4 b5
    clear kf4 hf4 bw4 b5
    obtain ⟨y0, y1', y2, y3, y4, y5, y6, y7, y8⟩ := font_cells kf5
    rw [HFD.out] at y0 y1' y2 y3 y4 y5 y6 y7 y8
    dsimp only at y0 y1' y2 y3 y4 y5 y6 y7 y8
    go_wp2_with fail
    clear y0 y1' y2 y3 y4 y5 y6 y7 y8
    have HC := Lib.hid (anchor_c f (twoF g) 0 kind class' w5 hf5)
    rw [two_a0, HFD.out] at HC
    unfold FV.cells ancV at HC
    refine HC.out.mono ?_
    rintro e w6 ⟨rfl, b6⟩
    clear HC
    have kf6 := kf5.call b6
    have hf6 := hf5.call b6
    have bw6 := below_call bw5 b6
    clear kf5 hf5 bw5 b6
    obtain ⟨y0, y1', y2, y3, y4, y5, y6, y7, y8⟩ := font_cells kf6
    rw [HFD.out] at y0 y1' y2 y3 y4 y5 y6 y7 y8
    dsimp only at y0 y1' y2 y3 y4 y5 y6 y7 y8
    dsimp only
    go_wp2_with fail
    clear y0 y1' y2 y3 y4 y5 y6 y7 y8
    have HC := Lib.hid (anchor_c f (twoF g) (wrap64 (kind + 2)) 1 class' w6 hf6)
    have hp4 : kind ≠ -1 → kind ≠ -2 → (anchorL (twoF g) (wrap64 (kind + 2)) 1 class').isSome = false := fun h1 h2 => by
      rw [two_out]
      · rfl
      · unfold wrap64; omega
      · unfold wrap64; omega
    have HP4 := Lib.hid hp4
    rw [ancV_u] at HC
    generalize anchorL (twoF g) (wrap64 (kind + 2)) 1 class' = o4 at *
    generalize ax o4 = x4 at *
    generalize ay o4 = y4 at *
    generalize o4.isSome = p4 at *
    rw [HFD.out] at HC
    unfold FV.cells at HC
    clear hp4 hrange
    refine HC.out.mono ?_
    rintro e w7 ⟨rfl, b7⟩
    clear HC
    have bw7 := below_call bw6 b7
    clear kf6 hf6 bw6 b7
    go_wp2_with fail
    refine (hung_c w7).mono ?_
    rintro e w8 ⟨rfl, b8⟩
    have bw8 := below_call bw7 b8
    have z1 : (x1 == x1) = true := by simp
    have z2 : (y1 == y1) = true := by simp
    have z3 : (p1 == p1) = true := by simp
    by_cases h1 : kind = -1
    · have e1 : (kind == -1) = true := by simp [h1]
      subst h1
      go_wp2
      go_ret
      exact ⟨rfl, bw8⟩
    · have e1 : (kind == -1) = false := by simpa using h1
      by_cases h2 : kind = -2
      · have e2 : (kind == -2) = true := by simp [h2]
        subst h2
        go_wp2
        go_ret
        exact ⟨rfl, bw8⟩
      · have e2 : (kind == -2) = false := by simpa using h2
        have hp4 := HP4.out h1 h2
        subst hp4
        go_wp2
        go_ret
        exact ⟨rfl, bw8⟩

end Go.Proofs.Ytbjcbcdccekbkaa
