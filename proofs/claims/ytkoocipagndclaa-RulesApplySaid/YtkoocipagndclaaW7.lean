/- Walks: match. -/
import Derived.Test.YtkoocipagndclaaW6
import Derived.Deep.RegionHeld3
import Derived.Deep.DrawnRows
namespace Go.Proofs.Ytkoocipagndclaa
open Go.RowKit Go.Shelf
attribute [local go_sem ↓] Go.wp_at_zero Go.wp_at_succ

/-- A block of cells that no run and no work lies in. -/
def Sol (w : World) (b : Nat) : Prop := ∃ cs t fr, w.heap[b]? = some (.cells cs t fr) ∧ t ≠ 51 ∧ t ≠ 60
theorem Sol.lt {w : World} {b : Nat} (h : Sol w b) : b < w.heap.size := by obtain ⟨cs, t, fr, h, _⟩ := h; exact (Array.getElem?_eq_some_iff.1 h).1
theorem Sol.below {w w' : World} {b : Nat} (h : Sol w b) (hb : Below w.heap.size w w') : Sol w' b := by
  have hl := h.lt
  obtain ⟨cs, t, fr, h, h2⟩ := h
  exact ⟨cs, t, fr, (hb.block b hl).trans h, h2⟩
theorem Ow.rdS {w : World} {base n c : Nat} {A : Option Addr} {xs : List Int} (h : Ow 3 1 w base A n c (ic xs)) : Rd w (Sol w) A n xs := by
  refine ⟨h.rd.1, fun hn => ?_⟩
  obtain ⟨b, o, e, _, hc⟩ := h.rd.2 hn
  obtain ⟨_, _, _, cur, hh⟩ := h.blk b (by rw [e]; rfl)
  exact ⟨b, o, e, ⟨cur, 3, _, hh, by decide, by decide⟩, hc⟩
theorem Rd.solLo {w : World} {A : Option Addr} {n : Nat} {xs : List Int} (h : Rd w (Sol w) A n xs) : Rd w (lo w.heap.size) A n xs := h.mono (fun _ h => h.lt) (Kept.refl _ _)

theorem seen_p (Bw : Nat) (f : FV) (F : Fnt) (RA : Option Addr) (rn rc : Nat) (run : List Itm) (ign : Bool) (k s : Int) (w : World) (hf : IsF w (lo w.heap.size) f F) (h1 : w.cell? ⟨Bw, 1, none⟩ = some (.slice f.ga f.gn f.gc)) (h9 : w.cell? ⟨Bw, 9, none⟩ = some (.slice RA rn rc))
    (hI : RdI w (lo w.heap.size) RA rn run) (hrn : rn ≤ 9223372036854775806) :
    Calls Try.prog 39 #[.pointer (some ⟨Bw, 0, none⟩), .bool ign, .int .i64 k, .int .i64 s] w fun e w' => ∃ B1 B2 B3 B4,
      e = .returned (.func (.func 54) #[] #[.pointer (some ⟨B1, 0, none⟩), .pointer (some ⟨B2, 0, none⟩), .pointer (some ⟨B3, 0, none⟩), .pointer (some ⟨B4, 0, none⟩)]) ∧
      It w' w'.heap.size B1 B2 B3 B4 Bw f F RA rn rc run ign k s ∧ Below w.heap.size w w' := by
  refine (seen_c Bw ign k s w).mono ?_
  rintro e w' ⟨rfl, rfl⟩
  refine ⟨_, _, _, _, rfl, ?_, below_lit _ _ (below_lit _ _ (below_lit _ _ (below_lit _ _ (Below.refl _ _) _) _) _) _⟩
  have hb : Below w.heap.size w ((((w.alloc (.cells #[.pointer (some ⟨Bw, 0, none⟩)] 57)).alloc (.cells #[.bool ign] 4)).alloc (.cells #[.int .i64 k] 3)).alloc (.cells #[.int .i64 s] 3)) := below_lit _ _ (below_lit _ _ (below_lit _ _ (below_lit _ _ (Below.refl _ _) _) _) _) _
  have lw := cell_lt h1
  refine ⟨Nat.le_refl _, by simp, by simp; omega, by simp, by simp, by simp; simp at lw; omega, ?_, ?_, ?_, ?_, cell_call h1 hb, cell_call h9 hb, hI.call hb, hf.call hb, hrn⟩
  · have h := (Bk.new ((w.alloc (.cells #[.pointer (some ⟨Bw, 0, none⟩)] 57)).alloc (.cells #[.bool ign] 4)) 3 #[.int .i64 k]).alloc (.cells #[.int .i64 s] 3)
    have h2 := h.cell 0
    simpa using h2
  · have h := (((Bk.new w 57 #[.pointer (some ⟨Bw, 0, none⟩)]).alloc (.cells #[.bool ign] 4)).alloc (.cells #[.int .i64 k] 3)).alloc (.cells #[.int .i64 s] 3)
    have h2 := h.cell 0
    simpa using h2
  · have h := Bk.new (((w.alloc (.cells #[.pointer (some ⟨Bw, 0, none⟩)] 57)).alloc (.cells #[.bool ign] 4)).alloc (.cells #[.int .i64 k] 3)) 3 #[.int .i64 s]
    have h2 := h.cell 0
    simpa using h2
  · have h := ((Bk.new (w.alloc (.cells #[.pointer (some ⟨Bw, 0, none⟩)] 57)) 4 #[.bool ign]).alloc (.cells #[.int .i64 k] 3)).alloc (.cells #[.int .i64 s] 3)
    have h2 := h.cell 0
    simpa using h2

end Go.Proofs.Ytkoocipagndclaa
