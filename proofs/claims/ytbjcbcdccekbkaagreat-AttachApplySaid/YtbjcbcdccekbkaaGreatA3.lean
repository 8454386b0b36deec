/- Walks: join. -/
import Derived.Test.YtbjcbcdccekbkaaGreatA2
namespace Go.Proofs.YtbjcbcdccekbkaaGreat
open Go.RowKit Go.Shelf
attribute [local go_sem ↓] Go.wp_at_zero Go.wp_at_succ

theorem PS.f9 {B : Nat} {W : World} {Bp : Nat} {f : FV} {F : Fnt} {kd : Int} {ign : Bool} {LA : Option Addr} {ll lc : Nat} {num : Int} {RA : Option Addr} {rn rc : Nat} {run : List Itm} (h : PS B W Bp f F kd ign LA ll lc num RA rn rc run) : W.cell? ⟨Bp, 0, none⟩ = some (.int .i64 f.u0) ∧ W.cell? ⟨Bp, 1, none⟩ = some (.slice f.ga f.gn f.gc) ∧ W.cell? ⟨Bp, 2, none⟩ = some (.slice f.ca f.cn f.cc) ∧ W.cell? ⟨Bp, 3, none⟩ = some (.slice f.la f.ln f.lc) ∧ W.cell? ⟨Bp, 4, none⟩ = some (.slice f.a4 f.n4 f.c4) ∧ W.cell? ⟨Bp, 5, none⟩ = some (.slice f.a5 f.n5 f.c5) ∧ W.cell? ⟨Bp, 6, none⟩ = some (.slice f.a6 f.n6 f.c6) ∧ W.cell? ⟨Bp, 7, none⟩ = some (.slice f.a7 f.n7 f.c7) ∧ W.cell? ⟨Bp, 8, none⟩ = some (.slice f.a8 f.n8 f.c8) := by
  refine ⟨?_, ?_, ?_, ?_, ?_, ?_, ?_, ?_, ?_⟩
  · have := h.pk.cell 0; simpa using this
  · have := h.pk.cell 1; simpa using this
  · have := h.pk.cell 2; simpa using this
  · have := h.pk.cell 3; simpa using this
  · have := h.pk.cell 4; simpa using this
  · have := h.pk.cell 5; simpa using this
  · have := h.pk.cell 6; simpa using this
  · have := h.pk.cell 7; simpa using this
  · have := h.pk.cell 8; simpa using this
theorem itAt_some {run : List Itm} {i : Nat} {it : Itm} (h : run[i]? = some it) : itAt run i = it := by simp [itAt, h]
theorem anc_dec (o : Option (Int × Int)) : o = none ∨ ∃ x y, o = some (x, y) := by
  rcases o with _ | ⟨x, y⟩
  · exact .inl rfl
  · exact .inr ⟨x, y, rfl⟩

theorem keep10 {W : World} {Bp gi q : Nat} {f : FV} {v : Value} (h : W.cell? ⟨Bp, 0, none⟩ = some (.int .i64 f.u0) ∧ W.cell? ⟨Bp, 1, none⟩ = some (.slice f.ga f.gn f.gc) ∧ W.cell? ⟨Bp, 2, none⟩ = some (.slice f.ca f.cn f.cc) ∧ W.cell? ⟨Bp, 3, none⟩ = some (.slice f.la f.ln f.lc) ∧ W.cell? ⟨Bp, 4, none⟩ = some (.slice f.a4 f.n4 f.c4) ∧ W.cell? ⟨Bp, 5, none⟩ = some (.slice f.a5 f.n5 f.c5) ∧ W.cell? ⟨Bp, 6, none⟩ = some (.slice f.a6 f.n6 f.c6) ∧ W.cell? ⟨Bp, 7, none⟩ = some (.slice f.a7 f.n7 f.c7) ∧ W.cell? ⟨Bp, 8, none⟩ = some (.slice f.a8 f.n8 f.c8)) (h2 : W.cell? ⟨gi, q, none⟩ = some v) : W.cell? ⟨Bp, 0, none⟩ = some (.int .i64 f.u0) ∧ W.cell? ⟨Bp, 1, none⟩ = some (.slice f.ga f.gn f.gc) ∧ W.cell? ⟨Bp, 2, none⟩ = some (.slice f.ca f.cn f.cc) ∧ W.cell? ⟨Bp, 3, none⟩ = some (.slice f.la f.ln f.lc) ∧ W.cell? ⟨Bp, 4, none⟩ = some (.slice f.a4 f.n4 f.c4) ∧ W.cell? ⟨Bp, 5, none⟩ = some (.slice f.a5 f.n5 f.c5) ∧ W.cell? ⟨Bp, 6, none⟩ = some (.slice f.a6 f.n6 f.c6) ∧ W.cell? ⟨Bp, 7, none⟩ = some (.slice f.a7 f.n7 f.c7) ∧ W.cell? ⟨Bp, 8, none⟩ = some (.slice f.a8 f.n8 f.c8) ∧ W.cell? ⟨gi, q, none⟩ = some v := by
  obtain ⟨y0, y1, y2, y3, y4, y5, y6, y7, y8⟩ := h
  exact ⟨y0, y1, y2, y3, y4, y5, y6, y7, y8, h2⟩
/-- What a step of placing leaves. -/
def PPost (B Bp : Nat) (f : FV) (F : Fnt) (kd : Int) (ign : Bool) (LA : Option Addr) (ll lc : Nat) (num : Int) (RA : Option Addr) (rn rc : Nat) (W : World) (run' : List Itm) (e : Ending) (W' : World) : Prop :=
  e = .returned (.tuple #[]) ∧ PS B W' Bp f F kd ign LA ll lc num RA rn rc run' ∧ Below B W W'

set_option maxRecDepth 100000 in
set_option maxHeartbeats 4000000 in
theorem join_c (B Bp : Nat) (f : FV) (F : Fnt) (kd : Int) (ign : Bool) (LA : Option Addr) (ll lc : Nat) (num : Int) (RA : Option Addr) (rn rc : Nat) (run : List Itm) (a b : Nat) (bt : Int) (W : World) (hs : PS B W Bp f F kd ign LA ll lc num RA rn rc run) (hab : a < b) (hb : b < run.length) (hrn : rn ≤ 1000000) :
    Calls Tryz.prog 28 #[.pointer (some ⟨Bp, 0, none⟩), .int .i64 (a : Int), .int .i64 (b : Int), .int .i64 bt] W (PPost B Bp f F kd ign LA ll lc num RA rn rc W (joinA w64 F run a b bt)) := by
  obtain ⟨ia, hia⟩ := at_some run a (by omega)
  obtain ⟨ib, hib⟩ := at_some run b hb
  have hrl := hs.len
  obtain ⟨gi, rfl, _, _⟩ := hs.own.form (by omega)
  have hJ : joinA w64 F run a b bt = (match anchorL F ia.g 4 0, anchorL F ib.g 3 0 with
    | some (ex, ey), some (nx, ny) => (run.set a { ia with a := w64 (w64 (w64 (w64 (ia.x + ex) - nx) - ib.x) - bt) }).set b { ib with y := w64 (w64 (ia.y + ey) - ny) }
    | _, _ => run) := by
    unfold joinA
    rw [gAt_some hia, gAt_some hib]
    rcases anc_dec (anchorL F ia.g 4 0) with e1 | ⟨ex, ey, e1⟩
    · rw [e1]
    · rcases anc_dec (anchorL F ib.g 3 0) with e2 | ⟨nx, ny, e2⟩
      · rw [e1, e2]
      · rw [e1, e2]
        dsimp only
        have q1 : itAt (run.set a { itAt run a with a := w64 (w64 (w64 (w64 ((itAt run a).x + ex) - nx) - (itAt run b).x) - bt) }) b = ib := itAt_some (by rw [List.getElem?_set_ne (by omega)]; exact hib)
        have q2 : itAt (run.set a { itAt run a with a := w64 (w64 (w64 (w64 ((itAt run a).x + ex) - nx) - (itAt run b).x) - bt) }) a = { ia with a := w64 (w64 (w64 (w64 (ia.x + ex) - nx) - ib.x) - bt) } := by
          rw [itAt_some (List.getElem?_set_self (by omega)), itAt_some hia, itAt_some hib]
        rw [q1, q2, itAt_some hia, itAt_some hib]
  obtain ⟨R, hR⟩ : ∃ R, R = joinA w64 F run a b bt := ⟨_, rfl⟩
  rw [← hR]
  rw [hJ] at hR
  clear hJ
  have ra := hs.own.cell (itc_at hia (j := 0) (v := .int .i64 ia.g) rfl)
  rw [Nat.add_zero] at ra
  have c13 := hs.c13
  obtain ⟨y0, y1, y2, y3, y4, y5, y6, y7, y8⟩ := hs.f9
  have HS := Lib.hid hs
  have HIA := Lib.hid hia; have HIB := Lib.hid hib
  have az : (0 : Int) ≤ (a : Int) := by omega
  have ar : (a : Int) < (rn : Int) := by omega
  have bz : (0 : Int) ≤ (b : Int) := by omega
  have br : (b : Int) < (rn : Int) := by omega
  have C1 := Lib.hid fun (W1 : World) (h1 : IsF W1 (lo W1.heap.size) f F) => anchor_c f F ia.g 4 0 W1 h1
  have C2 := Lib.hid fun (W1 : World) (h1 : IsF W1 (lo W1.heap.size) f F) => anchor_c f F ib.g 3 0 W1 h1
  unfold FV.cells at C1 C2
  generalize anchorL F ia.g 4 0 = o1 at *
  generalize anchorL F ib.g 3 0 = o2 at *
  have HR := Lib.hid hR
  clear hs hia hib hrl hR hb
  go_enter Tryz.func28, Tryz.ntmps28
  go_wp2
  go_quiet (fail)
  have hs1 := HS.out.drewN_ nq
  generalize hW1 : W.drewN nq = W1 at *
  have b1 : Below B W W1 := by rw [← hW1]; exact below_drewN (Below.refl _ _) _
  have r1 : W1.cell? ⟨gi, a * 6, none⟩ = some (.int .i64 ia.g) := by rw [← hW1]; exact ra
  obtain ⟨y0, y1, y2, y3, y4, y5, y6, y7, y8⟩ := hs1.f9
  clear hW1 ra c13
  rcases anc_dec o1 with rfl | ⟨ex, ey, rfl⟩ <;> rcases anc_dec o2 with rfl | ⟨nx, ny, rfl⟩
  · unfold ancV at C1 C2
    dsimp only at C1 C2
    go_wp2
    go_region_held3 (fun w' => w'.cell? ⟨Bp, 0, none⟩ = some (.int .i64 f.u0) ∧ w'.cell? ⟨Bp, 1, none⟩ = some (.slice f.ga f.gn f.gc) ∧ w'.cell? ⟨Bp, 2, none⟩ = some (.slice f.ca f.cn f.cc) ∧ w'.cell? ⟨Bp, 3, none⟩ = some (.slice f.la f.ln f.lc) ∧ w'.cell? ⟨Bp, 4, none⟩ = some (.slice f.a4 f.n4 f.c4) ∧ w'.cell? ⟨Bp, 5, none⟩ = some (.slice f.a5 f.n5 f.c5) ∧ w'.cell? ⟨Bp, 6, none⟩ = some (.slice f.a6 f.n6 f.c6) ∧ w'.cell? ⟨Bp, 7, none⟩ = some (.slice f.a7 f.n7 f.c7) ∧ w'.cell? ⟨Bp, 8, none⟩ = some (.slice f.a8 f.n8 f.c8) ∧ w'.cell? ⟨gi, a * 6, none⟩ = some (.int .i64 ia.g)) (first | (with_reducible exact z) | go_keep) (first
      | (go_at_call 18; (with_reducible refine (C1.out _ ?_).mono ?_); exact hs1.fontU; rintro e w5 ⟨rfl, hb5⟩; have hs5 := hs1.call (below_undrew hb5); have z := keep10 hs5.f9 (cell_call (w := W1) r1 (below_undrew hb5))))
    have b5 : Below B W w5 := b1.trans ((below_undrew hb5).mono hs1.hB)
    have r5 := hs5.own.cell (itc_at HIB.out (j := 0) (v := .int .i64 ib.g) rfl)
    rw [Nat.add_zero] at r5
    clear z hb5 hs1 b1 r1 C1 y0 y1 y2 y3 y4 y5 y6 y7 y8
    obtain ⟨y0, y1, y2, y3, y4, y5, y6, y7, y8⟩ := hs5.f9
    go_wp2
    go_region_held3 (fun w' => w'.cell? ⟨Bp, 0, none⟩ = some (.int .i64 f.u0) ∧ w'.cell? ⟨Bp, 1, none⟩ = some (.slice f.ga f.gn f.gc) ∧ w'.cell? ⟨Bp, 2, none⟩ = some (.slice f.ca f.cn f.cc) ∧ w'.cell? ⟨Bp, 3, none⟩ = some (.slice f.la f.ln f.lc) ∧ w'.cell? ⟨Bp, 4, none⟩ = some (.slice f.a4 f.n4 f.c4) ∧ w'.cell? ⟨Bp, 5, none⟩ = some (.slice f.a5 f.n5 f.c5) ∧ w'.cell? ⟨Bp, 6, none⟩ = some (.slice f.a6 f.n6 f.c6) ∧ w'.cell? ⟨Bp, 7, none⟩ = some (.slice f.a7 f.n7 f.c7) ∧ w'.cell? ⟨Bp, 8, none⟩ = some (.slice f.a8 f.n8 f.c8) ∧ w'.cell? ⟨gi, b * 6, none⟩ = some (.int .i64 ib.g)) (first | (with_reducible exact z) | go_keep) (first
      | (go_at_call 18; (with_reducible refine (C2.out _ ?_).mono ?_); exact hs5.fontU; rintro e w6 ⟨rfl, hb6⟩; have hs6 := hs5.call (below_undrew hb6); have z := keep10 hs6.f9 (cell_call (w := w5) r5 (below_undrew hb6))))
    have b6 : Below B W w6 := b5.trans ((below_undrew hb6).mono hs5.hB)
    clear z hb6 hs5 b5 r5 C2 y0 y1 y2 y3 y4 y5 y6 y7 y8
    go_wp2
    go_end0
    exact ⟨rfl, by rw [HR.out]; exact hs6, b6⟩
  · unfold ancV at C1 C2
    dsimp only at C1 C2
    go_wp2
    go_region_held3 (fun w' => w'.cell? ⟨Bp, 0, none⟩ = some (.int .i64 f.u0) ∧ w'.cell? ⟨Bp, 1, none⟩ = some (.slice f.ga f.gn f.gc) ∧ w'.cell? ⟨Bp, 2, none⟩ = some (.slice f.ca f.cn f.cc) ∧ w'.cell? ⟨Bp, 3, none⟩ = some (.slice f.la f.ln f.lc) ∧ w'.cell? ⟨Bp, 4, none⟩ = some (.slice f.a4 f.n4 f.c4) ∧ w'.cell? ⟨Bp, 5, none⟩ = some (.slice f.a5 f.n5 f.c5) ∧ w'.cell? ⟨Bp, 6, none⟩ = some (.slice f.a6 f.n6 f.c6) ∧ w'.cell? ⟨Bp, 7, none⟩ = some (.slice f.a7 f.n7 f.c7) ∧ w'.cell? ⟨Bp, 8, none⟩ = some (.slice f.a8 f.n8 f.c8) ∧ w'.cell? ⟨gi, a * 6, none⟩ = some (.int .i64 ia.g)) (first | (with_reducible exact z) | go_keep) (first
      | (go_at_call 18; (with_reducible refine (C1.out _ ?_).mono ?_); exact hs1.fontU; rintro e w5 ⟨rfl, hb5⟩; have hs5 := hs1.call (below_undrew hb5); have z := keep10 hs5.f9 (cell_call (w := W1) r1 (below_undrew hb5))))
    have b5 : Below B W w5 := b1.trans ((below_undrew hb5).mono hs1.hB)
    have r5 := hs5.own.cell (itc_at HIB.out (j := 0) (v := .int .i64 ib.g) rfl)
    rw [Nat.add_zero] at r5
    clear z hb5 hs1 b1 r1 C1 y0 y1 y2 y3 y4 y5 y6 y7 y8
    obtain ⟨y0, y1, y2, y3, y4, y5, y6, y7, y8⟩ := hs5.f9
    go_wp2
    go_region_held3 (fun w' => w'.cell? ⟨Bp, 0, none⟩ = some (.int .i64 f.u0) ∧ w'.cell? ⟨Bp, 1, none⟩ = some (.slice f.ga f.gn f.gc) ∧ w'.cell? ⟨Bp, 2, none⟩ = some (.slice f.ca f.cn f.cc) ∧ w'.cell? ⟨Bp, 3, none⟩ = some (.slice f.la f.ln f.lc) ∧ w'.cell? ⟨Bp, 4, none⟩ = some (.slice f.a4 f.n4 f.c4) ∧ w'.cell? ⟨Bp, 5, none⟩ = some (.slice f.a5 f.n5 f.c5) ∧ w'.cell? ⟨Bp, 6, none⟩ = some (.slice f.a6 f.n6 f.c6) ∧ w'.cell? ⟨Bp, 7, none⟩ = some (.slice f.a7 f.n7 f.c7) ∧ w'.cell? ⟨Bp, 8, none⟩ = some (.slice f.a8 f.n8 f.c8) ∧ w'.cell? ⟨gi, b * 6, none⟩ = some (.int .i64 ib.g)) (first | (with_reducible exact z) | go_keep) (first
      | (go_at_call 18; (with_reducible refine (C2.out _ ?_).mono ?_); exact hs5.fontU; rintro e w6 ⟨rfl, hb6⟩; have hs6 := hs5.call (below_undrew hb6); have z := keep10 hs6.f9 (cell_call (w := w5) r5 (below_undrew hb6))))
    have b6 : Below B W w6 := b5.trans ((below_undrew hb6).mono hs5.hB)
    clear z hb6 hs5 b5 r5 C2 y0 y1 y2 y3 y4 y5 y6 y7 y8
    go_wp2
    go_end0
    exact ⟨rfl, by rw [HR.out]; exact hs6, b6⟩
  · unfold ancV at C1 C2
    dsimp only at C1 C2
    go_wp2
    go_region_held3 (fun w' => w'.cell? ⟨Bp, 0, none⟩ = some (.int .i64 f.u0) ∧ w'.cell? ⟨Bp, 1, none⟩ = some (.slice f.ga f.gn f.gc) ∧ w'.cell? ⟨Bp, 2, none⟩ = some (.slice f.ca f.cn f.cc) ∧ w'.cell? ⟨Bp, 3, none⟩ = some (.slice f.la f.ln f.lc) ∧ w'.cell? ⟨Bp, 4, none⟩ = some (.slice f.a4 f.n4 f.c4) ∧ w'.cell? ⟨Bp, 5, none⟩ = some (.slice f.a5 f.n5 f.c5) ∧ w'.cell? ⟨Bp, 6, none⟩ = some (.slice f.a6 f.n6 f.c6) ∧ w'.cell? ⟨Bp, 7, none⟩ = some (.slice f.a7 f.n7 f.c7) ∧ w'.cell? ⟨Bp, 8, none⟩ = some (.slice f.a8 f.n8 f.c8) ∧ w'.cell? ⟨gi, a * 6, none⟩ = some (.int .i64 ia.g)) (first | (with_reducible exact z) | go_keep) (first
      | (go_at_call 18; (with_reducible refine (C1.out _ ?_).mono ?_); exact hs1.fontU; rintro e w5 ⟨rfl, hb5⟩; have hs5 := hs1.call (below_undrew hb5); have z := keep10 hs5.f9 (cell_call (w := W1) r1 (below_undrew hb5))))
    have b5 : Below B W w5 := b1.trans ((below_undrew hb5).mono hs1.hB)
    have r5 := hs5.own.cell (itc_at HIB.out (j := 0) (v := .int .i64 ib.g) rfl)
    rw [Nat.add_zero] at r5
    clear z hb5 hs1 b1 r1 C1 y0 y1 y2 y3 y4 y5 y6 y7 y8
    obtain ⟨y0, y1, y2, y3, y4, y5, y6, y7, y8⟩ := hs5.f9
    go_wp2
    go_region_held3 (fun w' => w'.cell? ⟨Bp, 0, none⟩ = some (.int .i64 f.u0) ∧ w'.cell? ⟨Bp, 1, none⟩ = some (.slice f.ga f.gn f.gc) ∧ w'.cell? ⟨Bp, 2, none⟩ = some (.slice f.ca f.cn f.cc) ∧ w'.cell? ⟨Bp, 3, none⟩ = some (.slice f.la f.ln f.lc) ∧ w'.cell? ⟨Bp, 4, none⟩ = some (.slice f.a4 f.n4 f.c4) ∧ w'.cell? ⟨Bp, 5, none⟩ = some (.slice f.a5 f.n5 f.c5) ∧ w'.cell? ⟨Bp, 6, none⟩ = some (.slice f.a6 f.n6 f.c6) ∧ w'.cell? ⟨Bp, 7, none⟩ = some (.slice f.a7 f.n7 f.c7) ∧ w'.cell? ⟨Bp, 8, none⟩ = some (.slice f.a8 f.n8 f.c8) ∧ w'.cell? ⟨gi, b * 6, none⟩ = some (.int .i64 ib.g)) (first | (with_reducible exact z) | go_keep) (first
      | (go_at_call 18; (with_reducible refine (C2.out _ ?_).mono ?_); exact hs5.fontU; rintro e w6 ⟨rfl, hb6⟩; have hs6 := hs5.call (below_undrew hb6); have z := keep10 hs6.f9 (cell_call (w := w5) r5 (below_undrew hb6))))
    have b6 : Below B W w6 := b5.trans ((below_undrew hb6).mono hs5.hB)
    clear z hb6 hs5 b5 r5 C2 y0 y1 y2 y3 y4 y5 y6 y7 y8
    go_wp2
    go_end0
    exact ⟨rfl, by rw [HR.out]; exact hs6, b6⟩
  · unfold ancV at C1 C2
    dsimp only at C1 C2
    go_wp2
    go_region_held3 (fun w' => w'.cell? ⟨Bp, 0, none⟩ = some (.int .i64 f.u0) ∧ w'.cell? ⟨Bp, 1, none⟩ = some (.slice f.ga f.gn f.gc) ∧ w'.cell? ⟨Bp, 2, none⟩ = some (.slice f.ca f.cn f.cc) ∧ w'.cell? ⟨Bp, 3, none⟩ = some (.slice f.la f.ln f.lc) ∧ w'.cell? ⟨Bp, 4, none⟩ = some (.slice f.a4 f.n4 f.c4) ∧ w'.cell? ⟨Bp, 5, none⟩ = some (.slice f.a5 f.n5 f.c5) ∧ w'.cell? ⟨Bp, 6, none⟩ = some (.slice f.a6 f.n6 f.c6) ∧ w'.cell? ⟨Bp, 7, none⟩ = some (.slice f.a7 f.n7 f.c7) ∧ w'.cell? ⟨Bp, 8, none⟩ = some (.slice f.a8 f.n8 f.c8) ∧ w'.cell? ⟨gi, a * 6, none⟩ = some (.int .i64 ia.g)) (first | (with_reducible exact z) | go_keep) (first
      | (go_at_call 18; (with_reducible refine (C1.out _ ?_).mono ?_); exact hs1.fontU; rintro e w5 ⟨rfl, hb5⟩; have hs5 := hs1.call (below_undrew hb5); have z := keep10 hs5.f9 (cell_call (w := W1) r1 (below_undrew hb5))))
    have b5 : Below B W w5 := b1.trans ((below_undrew hb5).mono hs1.hB)
    have r5 := hs5.own.cell (itc_at HIB.out (j := 0) (v := .int .i64 ib.g) rfl)
    rw [Nat.add_zero] at r5
    clear z hb5 hs1 b1 r1 C1 y0 y1 y2 y3 y4 y5 y6 y7 y8
    obtain ⟨y0, y1, y2, y3, y4, y5, y6, y7, y8⟩ := hs5.f9
    go_wp2
    go_region_held3 (fun w' => w'.cell? ⟨Bp, 0, none⟩ = some (.int .i64 f.u0) ∧ w'.cell? ⟨Bp, 1, none⟩ = some (.slice f.ga f.gn f.gc) ∧ w'.cell? ⟨Bp, 2, none⟩ = some (.slice f.ca f.cn f.cc) ∧ w'.cell? ⟨Bp, 3, none⟩ = some (.slice f.la f.ln f.lc) ∧ w'.cell? ⟨Bp, 4, none⟩ = some (.slice f.a4 f.n4 f.c4) ∧ w'.cell? ⟨Bp, 5, none⟩ = some (.slice f.a5 f.n5 f.c5) ∧ w'.cell? ⟨Bp, 6, none⟩ = some (.slice f.a6 f.n6 f.c6) ∧ w'.cell? ⟨Bp, 7, none⟩ = some (.slice f.a7 f.n7 f.c7) ∧ w'.cell? ⟨Bp, 8, none⟩ = some (.slice f.a8 f.n8 f.c8) ∧ w'.cell? ⟨gi, b * 6, none⟩ = some (.int .i64 ib.g)) (first | (with_reducible exact z) | go_keep) (first
      | (go_at_call 18; (with_reducible refine (C2.out _ ?_).mono ?_); exact hs5.fontU; rintro e w6 ⟨rfl, hb6⟩; have hs6 := hs5.call (below_undrew hb6); have z := keep10 hs6.f9 (cell_call (w := w5) r5 (below_undrew hb6))))
    have b6 : Below B W w6 := b5.trans ((below_undrew hb6).mono hs5.hB)
    clear z hb6 hs5 b5 r5 C2 y0 y1 y2 y3 y4 y5 y6 y7 y8
    have x4a := hs6.own.cell (itc_at HIA.out (j := 4) (v := .int .i64 ia.x) rfl)
    have x4b := hs6.own.cell (itc_at HIB.out (j := 4) (v := .int .i64 ib.x) rfl)
    have x3a := hs6.own.cell (itc_at HIA.out (j := 3) (v := .int .i64 ia.a) rfl)
    have f3a := hs6.own.frozen (a * 6 + 3)
    go_wp2
    go_region
    obtain ⟨h7, b7⟩ := hs6.store (a * 6 + 3) (.int .i64 (w64 (w64 (w64 (w64 (ia.x + ex) - nx) - ib.x) - bt))) (itc_setj (it' := { ia with a := w64 (w64 (w64 (w64 (ia.x + ex) - nx) - ib.x) - bt) }) HIA.out rfl (by omega))
    have hs7 := h7.drew_
    have bb7 := b6.trans b7
    replace bb7 : Below B W (w6.setCell ⟨gi, a * 6 + 3, none⟩ (.int .i64 (w64 (w64 (w64 (w64 (ia.x + ex) - nx) - ib.x) - bt)))).drew := ⟨bb7.os, bb7.tape, bb7.output, bb7.size, bb7.block⟩
    unfold w64 at hs7 bb7
    generalize (w6.setCell ⟨gi, a * 6 + 3, none⟩ (.int .i64 (wrap64 (wrap64 (wrap64 (wrap64 (ia.x + ex) - nx) - ib.x) - bt)))).drew = w7 at *
    have i7a : (run.set a { ia with a := wrap64 (wrap64 (wrap64 (wrap64 (ia.x + ex) - nx) - ib.x) - bt) })[a]? = some { ia with a := wrap64 (wrap64 (wrap64 (wrap64 (ia.x + ex) - nx) - ib.x) - bt) } := List.getElem?_set_self (List.getElem?_eq_some_iff.1 HIA.out).1
    have i7b : (run.set a { ia with a := wrap64 (wrap64 (wrap64 (wrap64 (ia.x + ex) - nx) - ib.x) - bt) })[b]? = some ib := by rw [List.getElem?_set_ne (by omega)]; exact HIB.out
    have y5a := hs7.own.cell (itc_at i7a (j := 5) (v := .int .i64 ia.y) rfl)
    have y5b := hs7.own.cell (itc_at i7b (j := 5) (v := .int .i64 ib.y) rfl)
    have f5b := hs7.own.frozen (b * 6 + 5)
    have I7B := Lib.hid i7b
    clear h7 b7 hs6 b6 x4a x4b x3a f3a i7a i7b
    go_wp2
    go_end0
    obtain ⟨h8, b8⟩ := hs7.store (b * 6 + 5) (.int .i64 (wrap64 (wrap64 (ia.y + ey) - ny))) (itc_setj (it' := { ib with y := wrap64 (wrap64 (ia.y + ey) - ny) }) I7B.out rfl (by omega))
    exact ⟨rfl, by rw [HR.out]; exact h8, bb7.trans b8⟩

end Go.Proofs.YtbjcbcdccekbkaaGreat
