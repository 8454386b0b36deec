/- Walk: AttachMarks. -/
import Derived.Test.YtbjcbcdccekbkaaR4
namespace Go.Proofs.Ytbjcbcdccekbkaa
open Go.RowKit Go.Shelf

set_option maxRecDepth 100000 in
set_option maxHeartbeats 4000000 in
theorem attachMarks_walk (f : FV) (F : Fnt) (lookup : Int) (RA : Option Addr) (rn rc : Nat) (run : List Itm) (w : World) (hf : IsF w (lo w.heap.size) f F) (hI : RdI w (lo w.heap.size) RA rn run) (hd : Hd rn rc) :
    Calls Try.prog 4 #[.agg f.cells, .int .i64 lookup, .slice RA rn rc] w (TP w) := by
  have hrnM : rn ≤ 9223372036854775807 := Nat.le_trans hd.1 hd.2
  have hs_0 := LS.new hf hI
  unfold FV.cells at hs_0 ⊢
  go_enter Try.func4, Try.ntmps4
  go_wp2_with fail
  generalize w.alloc (.cells #[.int .i64 f.u0, .slice f.ga f.gn f.gc, .slice f.ca f.cn f.cc, .slice f.la f.ln f.lc, .slice f.a4 f.n4 f.c4, .slice f.a5 f.n5 f.c5, .slice f.a6 f.n6 f.c6, .slice f.a7 f.n7 f.c7, .slice f.a8 f.n8 f.c8] 31) = w0 at hs_0 ⊢
  generalize hbf : w.heap.size = bf at hs_0 ⊢
  clear hbf hf hI
  have HC := Lib.hid (big14_c f F RA rn rc run w0 hs_0.hf hs_0.hI hrnM)
  unfold FV.cells at HC
  refine HC.out.mono ?_
  rintro e w1 ⟨rfl, b1⟩
  clear HC
  have hs_1 := hs_0.call b1
  clear hs_0 b1
  cases hbig : big14 F run with
  | true =>
    go_wp2
    go_ret
    exact ⟨rfl, hs_1.bw⟩
  | false =>
    obtain ⟨hl, hsm⟩ := small14 hbig
    have hrn : rn ≤ 100 := by have := hs_1.hI.len; omega
    have HL := Lib.hid hl
    have k7 := (attachL_keeps w64 F lookup 8 run).1
    have HC7 := Lib.hid fun (W : World) (h1 : IsF W (lo W.heap.size) f F) (h2 : RdI W (lo W.heap.size) RA rn run) => aMarks_c f F lookup RA rn rc run W h1 h2 (by omega)
    have HC8 := Lib.hid fun (W : World) (h1 : IsF W (lo W.heap.size) f F) (h2 : RdI W (lo W.heap.size) RA rn run) => rmarks_c f F lookup RA rn rc run W h1 h2 (by omega)
    generalize attachL w64 F lookup 8 run = R7 at *
    have HCS := Lib.hid fun (A A' : Option Addr) (n m c d : Nat) (W : World) (h1 : RdI W (lo W.heap.size) A n R7) (h2 : RdI W (lo W.heap.size) A' m R7) (hn : n ≤ 100) (hm : m ≤ 100) => same_c A A' n m c d R7 R7 W h1 h2 (by omega) (by omega)
    rw [show decide (R7 = R7) = true by simp] at HCS
    have K7 := Lib.hid k7
    have HN := Lib.hid fun (A : Option Addr) (n : Nat) (W : World) (h1 : RdI W (lo W.heap.size) A n R7) => (show n ≤ 100 by have := h1.len; have := K7.out; have := HL.out; omega)
    unfold FV.cells at HC7 HC8
    clear hl hsm hbig k7
    obtain ⟨y0, y1, y2, y3, y4, y5, y6, y7, y8⟩ := font_cells hs_1.kf
    go_wp2
    go_region_held3 (fun w' => w'.cell? ⟨bf, 0, none⟩ = some (.int .i64 f.u0) ∧ w'.cell? ⟨bf, 1, none⟩ = some (.slice f.ga f.gn f.gc) ∧ w'.cell? ⟨bf, 2, none⟩ = some (.slice f.ca f.cn f.cc) ∧ w'.cell? ⟨bf, 3, none⟩ = some (.slice f.la f.ln f.lc) ∧ w'.cell? ⟨bf, 4, none⟩ = some (.slice f.a4 f.n4 f.c4) ∧ w'.cell? ⟨bf, 5, none⟩ = some (.slice f.a5 f.n5 f.c5) ∧ w'.cell? ⟨bf, 6, none⟩ = some (.slice f.a6 f.n6 f.c6) ∧ w'.cell? ⟨bf, 7, none⟩ = some (.slice f.a7 f.n7 f.c7) ∧ w'.cell? ⟨bf, 8, none⟩ = some (.slice f.a8 f.n8 f.c8)) (first | (with_reducible exact z) | go_keep) (first
      | (go_at_call 13; refine (hung_c _).mono ?_; rintro e w2 ⟨rfl, b2⟩; have hs2 := hs_1.call (below_undrew b2); have z := font_cells hs2.kf)
      | (go_at_call 17; (with_reducible refine (HC7.out _ ?_ ?_).mono ?_); exact hs2.hf; exact hs2.hI; rintro e w3 ⟨A3, n3, c3, rfl, o3, b3⟩; have hs3 := hs2.call b3; have z := font_cells hs3.kf)
      | (go_at_call 18; (with_reducible refine (HC8.out _ ?_ ?_).mono ?_); exact hs3.hf; exact hs3.hI; rintro e w4 ⟨A4, n4, c4, rfl, o4, b4⟩; have hs4 := hs3.call b4; have z := font_cells hs4.kf; have q3 := o3.rdI.call b4; have q4 := o4.rdI)
      | (go_at_call 14; (with_reducible refine (HCS.out _ _ _ _ _ _ _ ?_ ?_ ?_ ?_).mono ?_); exact q3; exact q4; exact HN.out _ _ _ q3; exact HN.out _ _ _ q4; rintro e w5 ⟨rfl, b5⟩; have hs5 := hs4.call b5; have z := font_cells hs5.kf))
    go_wp2
    go_ret
    exact ⟨rfl, hs5.bw⟩

end Go.Proofs.Ytbjcbcdccekbkaa
