/- Walks: set; the font of the examples. -/
import Derived.Test.YtkoocipagndclaaM1
namespace Go.Proofs.Ytkoocipagndclaa
open Go.RowKit Go.Shelf

theorem set_c (g : Int) (w : World) : Calls Try.prog 45 #[.int .i64 g] w fun e w' => e = .returned (.slice (some ⟨w.heap.size + 1, 0, none⟩) 1 1) ∧ w' = (w.alloc (.cells #[.int .i64 g] 3)).alloc (.cells #[.slice (some ⟨w.heap.size, 0, none⟩) 1 1] 29) := by
  go_enter Try.func45, Try.ntmps45
  go_wp2
  go_ret
  exact ⟨rfl, rfl⟩
theorem allocs_at : ∀ (l : List Obj) (w : World) (i : Nat) (o : Obj), l[i]? = some o → (l.foldl World.alloc w).heap[w.heap.size + i]? = some o
  | [], _, _, _, h => by simp at h
  | a :: t, w, 0, o, h => by
    simp at h; subst h
    have key : ∀ (l : List Obj) (w : World) (j : Nat), j < w.heap.size → (l.foldl World.alloc w).heap[j]? = w.heap[j]? := by
      intro l
      induction l with
      | nil => intro w j _; rfl
      | cons b l ih => intro w j hj; rw [List.foldl_cons, ih _ _ (by simp; omega)]; exact Below.heap_alloc w b j hj
    rw [List.foldl_cons, Nat.add_zero, key _ _ _ (by simp)]
    exact heap_alloc_new w a
  | a :: t, w, i + 1, o, h => by
    have h1 := allocs_at t (w.alloc a) i o (by simpa using h)
    rw [World.size_alloc] at h1
    rw [List.foldl_cons, show w.heap.size + (i + 1) = w.heap.size + 1 + i by omega]
    exact h1
theorem allocs_below : ∀ (l : List Obj) (w0 w : World), Below w0.heap.size w0 w → Below w0.heap.size w0 (l.foldl World.alloc w)
  | [], _, _, h => h
  | a :: t, w0, w, h => allocs_below t w0 (w.alloc a) (below_lit w0 w h a)

/-- The font of the document's examples. -/
def egF : Fnt := ⟨[⟨false, []⟩, ⟨false, []⟩, ⟨false, []⟩, ⟨false, []⟩, ⟨true, []⟩], [⟨3, true, [⟨[], [[0], [1]], [], [2], [], 0⟩]⟩, ⟨2, false, [⟨[], [[0]], [], [0, 0], [], 0⟩]⟩, ⟨4, false, [⟨[], [[0], [1]], [], [], [(0, 3), (1, 4)], 0⟩]⟩, ⟨2, false, [⟨[], [[0]], [], [2, 2], [], 0⟩]⟩, ⟨1, false, [⟨[], [[2]], [], [3], [], 0⟩]⟩, ⟨5, false, [⟨[], [[0]], [[1]], [1], [], 0⟩]⟩, ⟨6, false, [⟨[], [[0], [0]], [], [], [], 5⟩]⟩]⟩
def EgPost (w : World) (e : Ending) (w' : World) : Prop := ∃ f : FV, e = .returned (.agg f.cells) ∧ IsF w' (lo w'.heap.size) f egF ∧ Below w.heap.size w w'
def egV (h : Nat) : FV := ⟨0, some ⟨h + 1 + 1 + 1 + 1, 0, none⟩, 5, 5, none, 0, 0, some ⟨h + 1 + 1 + 1 + 1 + 1 + 1 + 1 + 1 + 1 + 1 + 1 + 1 + 1 + 1 + 1 + 1 + 1 + 1 + 1 + 1 + 1 + 1 + 1 + 1 + 1 + 1 + 1 + 1 + 1 + 1 + 1, 0, none⟩, 7, 7, none, 0, 0, none, 0, 0, none, 0, 0, none, 0, 0, none, 0, 0⟩
def egL (h : Nat) : List Obj := [.cells #[.int .i64 0, .slice (some ⟨h + 1 + 1 + 1 + 1, 0, none⟩) 5 5, .slice none 0 0, .slice (some ⟨h + 1 + 1 + 1 + 1 + 1 + 1 + 1 + 1 + 1 + 1 + 1 + 1 + 1 + 1 + 1 + 1 + 1 + 1 + 1 + 1 + 1 + 1 + 1 + 1 + 1 + 1 + 1 + 1 + 1 + 1 + 1, 0, none⟩) 7 7, .slice none 0 0, .slice none 0 0, .slice none 0 0, .slice none 0 0, .slice none 0 0] 31,
  .cells #[.int .i64 0] 3,
  .cells #[.int .i64 1] 3,
  .cells #[.slice (some ⟨h + 1, 0, none⟩) 1 1, .slice (some ⟨h + 1 + 1, 0, none⟩) 1 1] 29,
  .cells #[.string ⟨#[]⟩, .int .i64 0, .bool false, .slice none 0 0, .slice none 0 0, .slice none 0 0, .slice none 0 0, .slice none 0 0, .slice none 0 0, .string ⟨#[]⟩, .int .i64 0, .bool false, .slice none 0 0, .slice none 0 0, .slice none 0 0, .slice none 0 0, .slice none 0 0, .slice none 0 0, .string ⟨#[]⟩, .int .i64 0, .bool false, .slice none 0 0, .slice none 0 0, .slice none 0 0, .slice none 0 0, .slice none 0 0, .slice none 0 0, .string ⟨#[]⟩, .int .i64 0, .bool false, .slice none 0 0, .slice none 0 0, .slice none 0 0, .slice none 0 0, .slice none 0 0, .slice none 0 0, .string ⟨#[]⟩, .int .i64 0, .bool true, .slice none 0 0, .slice none 0 0, .slice none 0 0, .slice none 0 0, .slice none 0 0, .slice none 0 0] 82,
  .cells #[.int .i64 2] 3,
  .cells #[.slice none 0 0, .slice (some ⟨h + 1 + 1 + 1, 0, none⟩) 2 2, .slice none 0 0, .slice (some ⟨h + 1 + 1 + 1 + 1 + 1, 0, none⟩) 1 1, .slice none 0 0, .int .i64 0] 48,
  .cells #[.int .i64 0] 3,
  .cells #[.slice (some ⟨h + 1 + 1 + 1 + 1 + 1 + 1 + 1, 0, none⟩) 1 1] 29,
  .cells #[.int .i64 0, .int .i64 0] 3,
  .cells #[.slice none 0 0, .slice (some ⟨h + 1 + 1 + 1 + 1 + 1 + 1 + 1 + 1, 0, none⟩) 1 1, .slice none 0 0, .slice (some ⟨h + 1 + 1 + 1 + 1 + 1 + 1 + 1 + 1 + 1, 0, none⟩) 2 2, .slice none 0 0, .int .i64 0] 48,
  .cells #[.int .i64 0, .int .i64 3, .int .i64 1, .int .i64 4] 55,
  .cells #[.slice none 0 0, .slice (some ⟨h + 1 + 1 + 1, 0, none⟩) 2 2, .slice none 0 0, .slice none 0 0, .slice (some ⟨h + 1 + 1 + 1 + 1 + 1 + 1 + 1 + 1 + 1 + 1 + 1, 0, none⟩) 2 2, .int .i64 0] 48,
  .cells #[.int .i64 0] 3,
  .cells #[.slice (some ⟨h + 1 + 1 + 1 + 1 + 1 + 1 + 1 + 1 + 1 + 1 + 1 + 1 + 1, 0, none⟩) 1 1] 29,
  .cells #[.int .i64 2, .int .i64 2] 3,
  .cells #[.slice none 0 0, .slice (some ⟨h + 1 + 1 + 1 + 1 + 1 + 1 + 1 + 1 + 1 + 1 + 1 + 1 + 1 + 1, 0, none⟩) 1 1, .slice none 0 0, .slice (some ⟨h + 1 + 1 + 1 + 1 + 1 + 1 + 1 + 1 + 1 + 1 + 1 + 1 + 1 + 1 + 1, 0, none⟩) 2 2, .slice none 0 0, .int .i64 0] 48,
  .cells #[.int .i64 2] 3,
  .cells #[.slice (some ⟨h + 1 + 1 + 1 + 1 + 1 + 1 + 1 + 1 + 1 + 1 + 1 + 1 + 1 + 1 + 1 + 1 + 1, 0, none⟩) 1 1] 29,
  .cells #[.int .i64 3] 3,
  .cells #[.slice none 0 0, .slice (some ⟨h + 1 + 1 + 1 + 1 + 1 + 1 + 1 + 1 + 1 + 1 + 1 + 1 + 1 + 1 + 1 + 1 + 1 + 1, 0, none⟩) 1 1, .slice none 0 0, .slice (some ⟨h + 1 + 1 + 1 + 1 + 1 + 1 + 1 + 1 + 1 + 1 + 1 + 1 + 1 + 1 + 1 + 1 + 1 + 1 + 1, 0, none⟩) 1 1, .slice none 0 0, .int .i64 0] 48,
  .cells #[.int .i64 0] 3,
  .cells #[.slice (some ⟨h + 1 + 1 + 1 + 1 + 1 + 1 + 1 + 1 + 1 + 1 + 1 + 1 + 1 + 1 + 1 + 1 + 1 + 1 + 1 + 1 + 1, 0, none⟩) 1 1] 29,
  .cells #[.int .i64 1] 3,
  .cells #[.slice (some ⟨h + 1 + 1 + 1 + 1 + 1 + 1 + 1 + 1 + 1 + 1 + 1 + 1 + 1 + 1 + 1 + 1 + 1 + 1 + 1 + 1 + 1 + 1 + 1, 0, none⟩) 1 1] 29,
  .cells #[.int .i64 1] 3,
  .cells #[.slice none 0 0, .slice (some ⟨h + 1 + 1 + 1 + 1 + 1 + 1 + 1 + 1 + 1 + 1 + 1 + 1 + 1 + 1 + 1 + 1 + 1 + 1 + 1 + 1 + 1 + 1, 0, none⟩) 1 1, .slice (some ⟨h + 1 + 1 + 1 + 1 + 1 + 1 + 1 + 1 + 1 + 1 + 1 + 1 + 1 + 1 + 1 + 1 + 1 + 1 + 1 + 1 + 1 + 1 + 1 + 1, 0, none⟩) 1 1, .slice (some ⟨h + 1 + 1 + 1 + 1 + 1 + 1 + 1 + 1 + 1 + 1 + 1 + 1 + 1 + 1 + 1 + 1 + 1 + 1 + 1 + 1 + 1 + 1 + 1 + 1 + 1, 0, none⟩) 1 1, .slice none 0 0, .int .i64 0] 48,
  .cells #[.int .i64 0] 3,
  .cells #[.int .i64 0] 3,
  .cells #[.slice (some ⟨h + 1 + 1 + 1 + 1 + 1 + 1 + 1 + 1 + 1 + 1 + 1 + 1 + 1 + 1 + 1 + 1 + 1 + 1 + 1 + 1 + 1 + 1 + 1 + 1 + 1 + 1 + 1, 0, none⟩) 1 1, .slice (some ⟨h + 1 + 1 + 1 + 1 + 1 + 1 + 1 + 1 + 1 + 1 + 1 + 1 + 1 + 1 + 1 + 1 + 1 + 1 + 1 + 1 + 1 + 1 + 1 + 1 + 1 + 1 + 1 + 1, 0, none⟩) 1 1] 29,
  .cells #[.slice none 0 0, .slice (some ⟨h + 1 + 1 + 1 + 1 + 1 + 1 + 1 + 1 + 1 + 1 + 1 + 1 + 1 + 1 + 1 + 1 + 1 + 1 + 1 + 1 + 1 + 1 + 1 + 1 + 1 + 1 + 1 + 1 + 1, 0, none⟩) 2 2, .slice none 0 0, .slice none 0 0, .slice none 0 0, .int .i64 5] 48,
  .cells #[.int .i64 3, .bool true, .slice (some ⟨h + 1 + 1 + 1 + 1 + 1 + 1, 0, none⟩) 1 1, .int .i64 2, .bool false, .slice (some ⟨h + 1 + 1 + 1 + 1 + 1 + 1 + 1 + 1 + 1 + 1, 0, none⟩) 1 1, .int .i64 4, .bool false, .slice (some ⟨h + 1 + 1 + 1 + 1 + 1 + 1 + 1 + 1 + 1 + 1 + 1 + 1, 0, none⟩) 1 1, .int .i64 2, .bool false, .slice (some ⟨h + 1 + 1 + 1 + 1 + 1 + 1 + 1 + 1 + 1 + 1 + 1 + 1 + 1 + 1 + 1 + 1, 0, none⟩) 1 1, .int .i64 1, .bool false, .slice (some ⟨h + 1 + 1 + 1 + 1 + 1 + 1 + 1 + 1 + 1 + 1 + 1 + 1 + 1 + 1 + 1 + 1 + 1 + 1 + 1 + 1, 0, none⟩) 1 1, .int .i64 5, .bool false, .slice (some ⟨h + 1 + 1 + 1 + 1 + 1 + 1 + 1 + 1 + 1 + 1 + 1 + 1 + 1 + 1 + 1 + 1 + 1 + 1 + 1 + 1 + 1 + 1 + 1 + 1 + 1 + 1, 0, none⟩) 1 1, .int .i64 6, .bool false, .slice (some ⟨h + 1 + 1 + 1 + 1 + 1 + 1 + 1 + 1 + 1 + 1 + 1 + 1 + 1 + 1 + 1 + 1 + 1 + 1 + 1 + 1 + 1 + 1 + 1 + 1 + 1 + 1 + 1 + 1 + 1 + 1, 0, none⟩) 1 1] 44]
def egW (w : World) (h : Nat) : World := (egL h).foldl World.alloc w
set_option maxRecDepth 100000 in
set_option maxHeartbeats 4000000 in
theorem eg_isf (w : World) (h : Nat) (hh : h = w.heap.size) : IsF (egW w h) (lo (egW w h).heap.size) (egV h) egF ∧ Below h w (egW w h) ∧ Bk (egW w h) h 31 (egV h).cells := by
  have at' : ∀ (i : Nat) (o : Obj), (egL h)[i]? = some o → (egW w h).heap[h + i]? = some o := fun i o hi => by rw [hh] at hi ⊢; exact allocs_at _ w i o hi
  have k0 : Bk (egW w h) (h) 31 #[.int .i64 0, .slice (some ⟨h + 1 + 1 + 1 + 1, 0, none⟩) 5 5, .slice none 0 0, .slice (some ⟨h + 1 + 1 + 1 + 1 + 1 + 1 + 1 + 1 + 1 + 1 + 1 + 1 + 1 + 1 + 1 + 1 + 1 + 1 + 1 + 1 + 1 + 1 + 1 + 1 + 1 + 1 + 1 + 1 + 1 + 1 + 1, 0, none⟩) 7 7, .slice none 0 0, .slice none 0 0, .slice none 0 0, .slice none 0 0, .slice none 0 0] := at' 0 _ rfl
  have k1 : Bk (egW w h) (h + 1) 3 #[.int .i64 0] := at' 1 _ rfl
  have k2 : Bk (egW w h) (h + 1 + 1) 3 #[.int .i64 1] := at' 2 _ rfl
  have k3 : Bk (egW w h) (h + 1 + 1 + 1) 29 #[.slice (some ⟨h + 1, 0, none⟩) 1 1, .slice (some ⟨h + 1 + 1, 0, none⟩) 1 1] := at' 3 _ rfl
  have k4 : Bk (egW w h) (h + 1 + 1 + 1 + 1) 82 #[.string ⟨#[]⟩, .int .i64 0, .bool false, .slice none 0 0, .slice none 0 0, .slice none 0 0, .slice none 0 0, .slice none 0 0, .slice none 0 0, .string ⟨#[]⟩, .int .i64 0, .bool false, .slice none 0 0, .slice none 0 0, .slice none 0 0, .slice none 0 0, .slice none 0 0, .slice none 0 0, .string ⟨#[]⟩, .int .i64 0, .bool false, .slice none 0 0, .slice none 0 0, .slice none 0 0, .slice none 0 0, .slice none 0 0, .slice none 0 0, .string ⟨#[]⟩, .int .i64 0, .bool false, .slice none 0 0, .slice none 0 0, .slice none 0 0, .slice none 0 0, .slice none 0 0, .slice none 0 0, .string ⟨#[]⟩, .int .i64 0, .bool true, .slice none 0 0, .slice none 0 0, .slice none 0 0, .slice none 0 0, .slice none 0 0, .slice none 0 0] := at' 4 _ rfl
  have k5 : Bk (egW w h) (h + 1 + 1 + 1 + 1 + 1) 3 #[.int .i64 2] := at' 5 _ rfl
  have k6 : Bk (egW w h) (h + 1 + 1 + 1 + 1 + 1 + 1) 48 #[.slice none 0 0, .slice (some ⟨h + 1 + 1 + 1, 0, none⟩) 2 2, .slice none 0 0, .slice (some ⟨h + 1 + 1 + 1 + 1 + 1, 0, none⟩) 1 1, .slice none 0 0, .int .i64 0] := at' 6 _ rfl
  have k7 : Bk (egW w h) (h + 1 + 1 + 1 + 1 + 1 + 1 + 1) 3 #[.int .i64 0] := at' 7 _ rfl
  have k8 : Bk (egW w h) (h + 1 + 1 + 1 + 1 + 1 + 1 + 1 + 1) 29 #[.slice (some ⟨h + 1 + 1 + 1 + 1 + 1 + 1 + 1, 0, none⟩) 1 1] := at' 8 _ rfl
  have k9 : Bk (egW w h) (h + 1 + 1 + 1 + 1 + 1 + 1 + 1 + 1 + 1) 3 #[.int .i64 0, .int .i64 0] := at' 9 _ rfl
  have k10 : Bk (egW w h) (h + 1 + 1 + 1 + 1 + 1 + 1 + 1 + 1 + 1 + 1) 48 #[.slice none 0 0, .slice (some ⟨h + 1 + 1 + 1 + 1 + 1 + 1 + 1 + 1, 0, none⟩) 1 1, .slice none 0 0, .slice (some ⟨h + 1 + 1 + 1 + 1 + 1 + 1 + 1 + 1 + 1, 0, none⟩) 2 2, .slice none 0 0, .int .i64 0] := at' 10 _ rfl
  have k11 : Bk (egW w h) (h + 1 + 1 + 1 + 1 + 1 + 1 + 1 + 1 + 1 + 1 + 1) 55 #[.int .i64 0, .int .i64 3, .int .i64 1, .int .i64 4] := at' 11 _ rfl
  have k12 : Bk (egW w h) (h + 1 + 1 + 1 + 1 + 1 + 1 + 1 + 1 + 1 + 1 + 1 + 1) 48 #[.slice none 0 0, .slice (some ⟨h + 1 + 1 + 1, 0, none⟩) 2 2, .slice none 0 0, .slice none 0 0, .slice (some ⟨h + 1 + 1 + 1 + 1 + 1 + 1 + 1 + 1 + 1 + 1 + 1, 0, none⟩) 2 2, .int .i64 0] := at' 12 _ rfl
  have k13 : Bk (egW w h) (h + 1 + 1 + 1 + 1 + 1 + 1 + 1 + 1 + 1 + 1 + 1 + 1 + 1) 3 #[.int .i64 0] := at' 13 _ rfl
  have k14 : Bk (egW w h) (h + 1 + 1 + 1 + 1 + 1 + 1 + 1 + 1 + 1 + 1 + 1 + 1 + 1 + 1) 29 #[.slice (some ⟨h + 1 + 1 + 1 + 1 + 1 + 1 + 1 + 1 + 1 + 1 + 1 + 1 + 1, 0, none⟩) 1 1] := at' 14 _ rfl
  have k15 : Bk (egW w h) (h + 1 + 1 + 1 + 1 + 1 + 1 + 1 + 1 + 1 + 1 + 1 + 1 + 1 + 1 + 1) 3 #[.int .i64 2, .int .i64 2] := at' 15 _ rfl
  have k16 : Bk (egW w h) (h + 1 + 1 + 1 + 1 + 1 + 1 + 1 + 1 + 1 + 1 + 1 + 1 + 1 + 1 + 1 + 1) 48 #[.slice none 0 0, .slice (some ⟨h + 1 + 1 + 1 + 1 + 1 + 1 + 1 + 1 + 1 + 1 + 1 + 1 + 1 + 1, 0, none⟩) 1 1, .slice none 0 0, .slice (some ⟨h + 1 + 1 + 1 + 1 + 1 + 1 + 1 + 1 + 1 + 1 + 1 + 1 + 1 + 1 + 1, 0, none⟩) 2 2, .slice none 0 0, .int .i64 0] := at' 16 _ rfl
  have k17 : Bk (egW w h) (h + 1 + 1 + 1 + 1 + 1 + 1 + 1 + 1 + 1 + 1 + 1 + 1 + 1 + 1 + 1 + 1 + 1) 3 #[.int .i64 2] := at' 17 _ rfl
  have k18 : Bk (egW w h) (h + 1 + 1 + 1 + 1 + 1 + 1 + 1 + 1 + 1 + 1 + 1 + 1 + 1 + 1 + 1 + 1 + 1 + 1) 29 #[.slice (some ⟨h + 1 + 1 + 1 + 1 + 1 + 1 + 1 + 1 + 1 + 1 + 1 + 1 + 1 + 1 + 1 + 1 + 1, 0, none⟩) 1 1] := at' 18 _ rfl
  have k19 : Bk (egW w h) (h + 1 + 1 + 1 + 1 + 1 + 1 + 1 + 1 + 1 + 1 + 1 + 1 + 1 + 1 + 1 + 1 + 1 + 1 + 1) 3 #[.int .i64 3] := at' 19 _ rfl
  have k20 : Bk (egW w h) (h + 1 + 1 + 1 + 1 + 1 + 1 + 1 + 1 + 1 + 1 + 1 + 1 + 1 + 1 + 1 + 1 + 1 + 1 + 1 + 1) 48 #[.slice none 0 0, .slice (some ⟨h + 1 + 1 + 1 + 1 + 1 + 1 + 1 + 1 + 1 + 1 + 1 + 1 + 1 + 1 + 1 + 1 + 1 + 1, 0, none⟩) 1 1, .slice none 0 0, .slice (some ⟨h + 1 + 1 + 1 + 1 + 1 + 1 + 1 + 1 + 1 + 1 + 1 + 1 + 1 + 1 + 1 + 1 + 1 + 1 + 1, 0, none⟩) 1 1, .slice none 0 0, .int .i64 0] := at' 20 _ rfl
  have k21 : Bk (egW w h) (h + 1 + 1 + 1 + 1 + 1 + 1 + 1 + 1 + 1 + 1 + 1 + 1 + 1 + 1 + 1 + 1 + 1 + 1 + 1 + 1 + 1) 3 #[.int .i64 0] := at' 21 _ rfl
  have k22 : Bk (egW w h) (h + 1 + 1 + 1 + 1 + 1 + 1 + 1 + 1 + 1 + 1 + 1 + 1 + 1 + 1 + 1 + 1 + 1 + 1 + 1 + 1 + 1 + 1) 29 #[.slice (some ⟨h + 1 + 1 + 1 + 1 + 1 + 1 + 1 + 1 + 1 + 1 + 1 + 1 + 1 + 1 + 1 + 1 + 1 + 1 + 1 + 1 + 1, 0, none⟩) 1 1] := at' 22 _ rfl
  have k23 : Bk (egW w h) (h + 1 + 1 + 1 + 1 + 1 + 1 + 1 + 1 + 1 + 1 + 1 + 1 + 1 + 1 + 1 + 1 + 1 + 1 + 1 + 1 + 1 + 1 + 1) 3 #[.int .i64 1] := at' 23 _ rfl
  have k24 : Bk (egW w h) (h + 1 + 1 + 1 + 1 + 1 + 1 + 1 + 1 + 1 + 1 + 1 + 1 + 1 + 1 + 1 + 1 + 1 + 1 + 1 + 1 + 1 + 1 + 1 + 1) 29 #[.slice (some ⟨h + 1 + 1 + 1 + 1 + 1 + 1 + 1 + 1 + 1 + 1 + 1 + 1 + 1 + 1 + 1 + 1 + 1 + 1 + 1 + 1 + 1 + 1 + 1, 0, none⟩) 1 1] := at' 24 _ rfl
  have k25 : Bk (egW w h) (h + 1 + 1 + 1 + 1 + 1 + 1 + 1 + 1 + 1 + 1 + 1 + 1 + 1 + 1 + 1 + 1 + 1 + 1 + 1 + 1 + 1 + 1 + 1 + 1 + 1) 3 #[.int .i64 1] := at' 25 _ rfl
  have k26 : Bk (egW w h) (h + 1 + 1 + 1 + 1 + 1 + 1 + 1 + 1 + 1 + 1 + 1 + 1 + 1 + 1 + 1 + 1 + 1 + 1 + 1 + 1 + 1 + 1 + 1 + 1 + 1 + 1) 48 #[.slice none 0 0, .slice (some ⟨h + 1 + 1 + 1 + 1 + 1 + 1 + 1 + 1 + 1 + 1 + 1 + 1 + 1 + 1 + 1 + 1 + 1 + 1 + 1 + 1 + 1 + 1, 0, none⟩) 1 1, .slice (some ⟨h + 1 + 1 + 1 + 1 + 1 + 1 + 1 + 1 + 1 + 1 + 1 + 1 + 1 + 1 + 1 + 1 + 1 + 1 + 1 + 1 + 1 + 1 + 1 + 1, 0, none⟩) 1 1, .slice (some ⟨h + 1 + 1 + 1 + 1 + 1 + 1 + 1 + 1 + 1 + 1 + 1 + 1 + 1 + 1 + 1 + 1 + 1 + 1 + 1 + 1 + 1 + 1 + 1 + 1 + 1, 0, none⟩) 1 1, .slice none 0 0, .int .i64 0] := at' 26 _ rfl
  have k27 : Bk (egW w h) (h + 1 + 1 + 1 + 1 + 1 + 1 + 1 + 1 + 1 + 1 + 1 + 1 + 1 + 1 + 1 + 1 + 1 + 1 + 1 + 1 + 1 + 1 + 1 + 1 + 1 + 1 + 1) 3 #[.int .i64 0] := at' 27 _ rfl
  have k28 : Bk (egW w h) (h + 1 + 1 + 1 + 1 + 1 + 1 + 1 + 1 + 1 + 1 + 1 + 1 + 1 + 1 + 1 + 1 + 1 + 1 + 1 + 1 + 1 + 1 + 1 + 1 + 1 + 1 + 1 + 1) 3 #[.int .i64 0] := at' 28 _ rfl
  have k29 : Bk (egW w h) (h + 1 + 1 + 1 + 1 + 1 + 1 + 1 + 1 + 1 + 1 + 1 + 1 + 1 + 1 + 1 + 1 + 1 + 1 + 1 + 1 + 1 + 1 + 1 + 1 + 1 + 1 + 1 + 1 + 1) 29 #[.slice (some ⟨h + 1 + 1 + 1 + 1 + 1 + 1 + 1 + 1 + 1 + 1 + 1 + 1 + 1 + 1 + 1 + 1 + 1 + 1 + 1 + 1 + 1 + 1 + 1 + 1 + 1 + 1 + 1, 0, none⟩) 1 1, .slice (some ⟨h + 1 + 1 + 1 + 1 + 1 + 1 + 1 + 1 + 1 + 1 + 1 + 1 + 1 + 1 + 1 + 1 + 1 + 1 + 1 + 1 + 1 + 1 + 1 + 1 + 1 + 1 + 1 + 1, 0, none⟩) 1 1] := at' 29 _ rfl
  have k30 : Bk (egW w h) (h + 1 + 1 + 1 + 1 + 1 + 1 + 1 + 1 + 1 + 1 + 1 + 1 + 1 + 1 + 1 + 1 + 1 + 1 + 1 + 1 + 1 + 1 + 1 + 1 + 1 + 1 + 1 + 1 + 1 + 1) 48 #[.slice none 0 0, .slice (some ⟨h + 1 + 1 + 1 + 1 + 1 + 1 + 1 + 1 + 1 + 1 + 1 + 1 + 1 + 1 + 1 + 1 + 1 + 1 + 1 + 1 + 1 + 1 + 1 + 1 + 1 + 1 + 1 + 1 + 1, 0, none⟩) 2 2, .slice none 0 0, .slice none 0 0, .slice none 0 0, .int .i64 5] := at' 30 _ rfl
  have k31 : Bk (egW w h) (h + 1 + 1 + 1 + 1 + 1 + 1 + 1 + 1 + 1 + 1 + 1 + 1 + 1 + 1 + 1 + 1 + 1 + 1 + 1 + 1 + 1 + 1 + 1 + 1 + 1 + 1 + 1 + 1 + 1 + 1 + 1) 44 #[.int .i64 3, .bool true, .slice (some ⟨h + 1 + 1 + 1 + 1 + 1 + 1, 0, none⟩) 1 1, .int .i64 2, .bool false, .slice (some ⟨h + 1 + 1 + 1 + 1 + 1 + 1 + 1 + 1 + 1 + 1, 0, none⟩) 1 1, .int .i64 4, .bool false, .slice (some ⟨h + 1 + 1 + 1 + 1 + 1 + 1 + 1 + 1 + 1 + 1 + 1 + 1, 0, none⟩) 1 1, .int .i64 2, .bool false, .slice (some ⟨h + 1 + 1 + 1 + 1 + 1 + 1 + 1 + 1 + 1 + 1 + 1 + 1 + 1 + 1 + 1 + 1, 0, none⟩) 1 1, .int .i64 1, .bool false, .slice (some ⟨h + 1 + 1 + 1 + 1 + 1 + 1 + 1 + 1 + 1 + 1 + 1 + 1 + 1 + 1 + 1 + 1 + 1 + 1 + 1 + 1, 0, none⟩) 1 1, .int .i64 5, .bool false, .slice (some ⟨h + 1 + 1 + 1 + 1 + 1 + 1 + 1 + 1 + 1 + 1 + 1 + 1 + 1 + 1 + 1 + 1 + 1 + 1 + 1 + 1 + 1 + 1 + 1 + 1 + 1 + 1, 0, none⟩) 1 1, .int .i64 6, .bool false, .slice (some ⟨h + 1 + 1 + 1 + 1 + 1 + 1 + 1 + 1 + 1 + 1 + 1 + 1 + 1 + 1 + 1 + 1 + 1 + 1 + 1 + 1 + 1 + 1 + 1 + 1 + 1 + 1 + 1 + 1 + 1 + 1, 0, none⟩) 1 1] := at' 31 _ rfl
  have lt : ∀ {g t : Nat} {cs : Array Value}, Bk (egW w h) g t cs → lo (egW w h).heap.size g := fun h => h.lt
  have a1 : Rd (egW w h) (lo (egW w h).heap.size) (some ⟨h + 1, 0, none⟩) 1 [0] := sle_one k1 (lt k1) _ rfl
  have a2 : Rd (egW w h) (lo (egW w h).heap.size) (some ⟨h + 1 + 1, 0, none⟩) 1 [1] := sle_one k2 (lt k2) _ rfl
  have a5 : Rd (egW w h) (lo (egW w h).heap.size) (some ⟨h + 1 + 1 + 1 + 1 + 1, 0, none⟩) 1 [2] := sle_one k5 (lt k5) _ rfl
  have a7 : Rd (egW w h) (lo (egW w h).heap.size) (some ⟨h + 1 + 1 + 1 + 1 + 1 + 1 + 1, 0, none⟩) 1 [0] := sle_one k7 (lt k7) _ rfl
  have a9 : Rd (egW w h) (lo (egW w h).heap.size) (some ⟨h + 1 + 1 + 1 + 1 + 1 + 1 + 1 + 1 + 1, 0, none⟩) 2 [0, 0] := sle_bk k9 (lt k9) _ rfl fun i x hx => by
    match i, hx with
    | 0, hx => injection hx with hx; subst hx; exact ⟨_, rfl, fun j v hv => by match j, hv with | 0, hv => exact hv⟩
    | 1, hx => injection hx with hx; subst hx; exact ⟨_, rfl, fun j v hv => by match j, hv with | 0, hv => exact hv⟩
  have a13 : Rd (egW w h) (lo (egW w h).heap.size) (some ⟨h + 1 + 1 + 1 + 1 + 1 + 1 + 1 + 1 + 1 + 1 + 1 + 1 + 1, 0, none⟩) 1 [0] := sle_one k13 (lt k13) _ rfl
  have a15 : Rd (egW w h) (lo (egW w h).heap.size) (some ⟨h + 1 + 1 + 1 + 1 + 1 + 1 + 1 + 1 + 1 + 1 + 1 + 1 + 1 + 1 + 1, 0, none⟩) 2 [2, 2] := sle_bk k15 (lt k15) _ rfl fun i x hx => by
    match i, hx with
    | 0, hx => injection hx with hx; subst hx; exact ⟨_, rfl, fun j v hv => by match j, hv with | 0, hv => exact hv⟩
    | 1, hx => injection hx with hx; subst hx; exact ⟨_, rfl, fun j v hv => by match j, hv with | 0, hv => exact hv⟩
  have a17 : Rd (egW w h) (lo (egW w h).heap.size) (some ⟨h + 1 + 1 + 1 + 1 + 1 + 1 + 1 + 1 + 1 + 1 + 1 + 1 + 1 + 1 + 1 + 1 + 1, 0, none⟩) 1 [2] := sle_one k17 (lt k17) _ rfl
  have a19 : Rd (egW w h) (lo (egW w h).heap.size) (some ⟨h + 1 + 1 + 1 + 1 + 1 + 1 + 1 + 1 + 1 + 1 + 1 + 1 + 1 + 1 + 1 + 1 + 1 + 1 + 1, 0, none⟩) 1 [3] := sle_one k19 (lt k19) _ rfl
  have a21 : Rd (egW w h) (lo (egW w h).heap.size) (some ⟨h + 1 + 1 + 1 + 1 + 1 + 1 + 1 + 1 + 1 + 1 + 1 + 1 + 1 + 1 + 1 + 1 + 1 + 1 + 1 + 1 + 1, 0, none⟩) 1 [0] := sle_one k21 (lt k21) _ rfl
  have a23 : Rd (egW w h) (lo (egW w h).heap.size) (some ⟨h + 1 + 1 + 1 + 1 + 1 + 1 + 1 + 1 + 1 + 1 + 1 + 1 + 1 + 1 + 1 + 1 + 1 + 1 + 1 + 1 + 1 + 1 + 1, 0, none⟩) 1 [1] := sle_one k23 (lt k23) _ rfl
  have a25 : Rd (egW w h) (lo (egW w h).heap.size) (some ⟨h + 1 + 1 + 1 + 1 + 1 + 1 + 1 + 1 + 1 + 1 + 1 + 1 + 1 + 1 + 1 + 1 + 1 + 1 + 1 + 1 + 1 + 1 + 1 + 1 + 1, 0, none⟩) 1 [1] := sle_one k25 (lt k25) _ rfl
  have a27 : Rd (egW w h) (lo (egW w h).heap.size) (some ⟨h + 1 + 1 + 1 + 1 + 1 + 1 + 1 + 1 + 1 + 1 + 1 + 1 + 1 + 1 + 1 + 1 + 1 + 1 + 1 + 1 + 1 + 1 + 1 + 1 + 1 + 1 + 1, 0, none⟩) 1 [0] := sle_one k27 (lt k27) _ rfl
  have a28 : Rd (egW w h) (lo (egW w h).heap.size) (some ⟨h + 1 + 1 + 1 + 1 + 1 + 1 + 1 + 1 + 1 + 1 + 1 + 1 + 1 + 1 + 1 + 1 + 1 + 1 + 1 + 1 + 1 + 1 + 1 + 1 + 1 + 1 + 1 + 1, 0, none⟩) 1 [0] := sle_one k28 (lt k28) _ rfl
  have a3 : RdV (egW w h) (lo (egW w h).heap.size) (some ⟨h + 1 + 1 + 1, 0, none⟩) 2 [[0], [1]] := sle_bk k3 (lt k3) _ rfl fun i x hx => by
    match i, hx with
    | 0, hx => injection hx with hx; subst hx; exact ⟨_, ⟨_, _, _, rfl, a1, hd_of (by omega)⟩, fun j v hv => by match j, hv with | 0, hv => exact hv⟩
    | 1, hx => injection hx with hx; subst hx; exact ⟨_, ⟨_, _, _, rfl, a2, hd_of (by omega)⟩, fun j v hv => by match j, hv with | 0, hv => exact hv⟩
  have a8 : RdV (egW w h) (lo (egW w h).heap.size) (some ⟨h + 1 + 1 + 1 + 1 + 1 + 1 + 1 + 1, 0, none⟩) 1 [[0]] := sle_bk k8 (lt k8) _ rfl fun i x hx => by
    match i, hx with
    | 0, hx => injection hx with hx; subst hx; exact ⟨_, ⟨_, _, _, rfl, a7, hd_of (by omega)⟩, fun j v hv => by match j, hv with | 0, hv => exact hv⟩
  have a14 : RdV (egW w h) (lo (egW w h).heap.size) (some ⟨h + 1 + 1 + 1 + 1 + 1 + 1 + 1 + 1 + 1 + 1 + 1 + 1 + 1 + 1, 0, none⟩) 1 [[0]] := sle_bk k14 (lt k14) _ rfl fun i x hx => by
    match i, hx with
    | 0, hx => injection hx with hx; subst hx; exact ⟨_, ⟨_, _, _, rfl, a13, hd_of (by omega)⟩, fun j v hv => by match j, hv with | 0, hv => exact hv⟩
  have a18 : RdV (egW w h) (lo (egW w h).heap.size) (some ⟨h + 1 + 1 + 1 + 1 + 1 + 1 + 1 + 1 + 1 + 1 + 1 + 1 + 1 + 1 + 1 + 1 + 1 + 1, 0, none⟩) 1 [[2]] := sle_bk k18 (lt k18) _ rfl fun i x hx => by
    match i, hx with
    | 0, hx => injection hx with hx; subst hx; exact ⟨_, ⟨_, _, _, rfl, a17, hd_of (by omega)⟩, fun j v hv => by match j, hv with | 0, hv => exact hv⟩
  have a22 : RdV (egW w h) (lo (egW w h).heap.size) (some ⟨h + 1 + 1 + 1 + 1 + 1 + 1 + 1 + 1 + 1 + 1 + 1 + 1 + 1 + 1 + 1 + 1 + 1 + 1 + 1 + 1 + 1 + 1, 0, none⟩) 1 [[0]] := sle_bk k22 (lt k22) _ rfl fun i x hx => by
    match i, hx with
    | 0, hx => injection hx with hx; subst hx; exact ⟨_, ⟨_, _, _, rfl, a21, hd_of (by omega)⟩, fun j v hv => by match j, hv with | 0, hv => exact hv⟩
  have a24 : RdV (egW w h) (lo (egW w h).heap.size) (some ⟨h + 1 + 1 + 1 + 1 + 1 + 1 + 1 + 1 + 1 + 1 + 1 + 1 + 1 + 1 + 1 + 1 + 1 + 1 + 1 + 1 + 1 + 1 + 1 + 1, 0, none⟩) 1 [[1]] := sle_bk k24 (lt k24) _ rfl fun i x hx => by
    match i, hx with
    | 0, hx => injection hx with hx; subst hx; exact ⟨_, ⟨_, _, _, rfl, a23, hd_of (by omega)⟩, fun j v hv => by match j, hv with | 0, hv => exact hv⟩
  have a29 : RdV (egW w h) (lo (egW w h).heap.size) (some ⟨h + 1 + 1 + 1 + 1 + 1 + 1 + 1 + 1 + 1 + 1 + 1 + 1 + 1 + 1 + 1 + 1 + 1 + 1 + 1 + 1 + 1 + 1 + 1 + 1 + 1 + 1 + 1 + 1 + 1, 0, none⟩) 2 [[0], [0]] := sle_bk k29 (lt k29) _ rfl fun i x hx => by
    match i, hx with
    | 0, hx => injection hx with hx; subst hx; exact ⟨_, ⟨_, _, _, rfl, a27, hd_of (by omega)⟩, fun j v hv => by match j, hv with | 0, hv => exact hv⟩
    | 1, hx => injection hx with hx; subst hx; exact ⟨_, ⟨_, _, _, rfl, a28, hd_of (by omega)⟩, fun j v hv => by match j, hv with | 0, hv => exact hv⟩
  have a11 : RdC (egW w h) (lo (egW w h).heap.size) (some ⟨h + 1 + 1 + 1 + 1 + 1 + 1 + 1 + 1 + 1 + 1 + 1, 0, none⟩) 2 [(0, 3), (1, 4)] := sle_bk k11 (lt k11) _ rfl fun i x hx => by
    match i, hx with
    | 0, hx => injection hx with hx; subst hx; exact ⟨_, ⟨rfl, by show (-9223372036854775808 : Int) ≤ 0; omega, by show (0 : Int) ≤ 9223372036854775807; omega⟩, fun j v hv => by match j, hv with | 0, hv => exact hv | 1, hv => exact hv⟩
    | 1, hx => injection hx with hx; subst hx; exact ⟨_, ⟨rfl, by show (-9223372036854775808 : Int) ≤ 1; omega, by show (1 : Int) ≤ 9223372036854775807; omega⟩, fun j v hv => by match j, hv with | 0, hv => exact hv | 1, hv => exact hv⟩
  have a6 : RdR (egW w h) (lo (egW w h).heap.size) (some ⟨h + 1 + 1 + 1 + 1 + 1 + 1, 0, none⟩) 1 [⟨[], [[0], [1]], [], [2], [], 0⟩] := sle_one k6 (lt k6) _ ⟨none, 0, 0, _, 2, 2, none, 0, 0, _, 1, 1, none, 0, 0, rfl, SlE.nil, a3, SlE.nil, a5, SlE.nil, hd_of (by omega), hd_of (by omega), hd_of (by omega), hd_of (by omega), hd_of (by omega)⟩
  have a10 : RdR (egW w h) (lo (egW w h).heap.size) (some ⟨h + 1 + 1 + 1 + 1 + 1 + 1 + 1 + 1 + 1 + 1, 0, none⟩) 1 [⟨[], [[0]], [], [0, 0], [], 0⟩] := sle_one k10 (lt k10) _ ⟨none, 0, 0, _, 1, 1, none, 0, 0, _, 2, 2, none, 0, 0, rfl, SlE.nil, a8, SlE.nil, a9, SlE.nil, hd_of (by omega), hd_of (by omega), hd_of (by omega), hd_of (by omega), hd_of (by omega)⟩
  have a12 : RdR (egW w h) (lo (egW w h).heap.size) (some ⟨h + 1 + 1 + 1 + 1 + 1 + 1 + 1 + 1 + 1 + 1 + 1 + 1, 0, none⟩) 1 [⟨[], [[0], [1]], [], [], [(0, 3), (1, 4)], 0⟩] := sle_one k12 (lt k12) _ ⟨none, 0, 0, _, 2, 2, none, 0, 0, none, 0, 0, _, 2, 2, rfl, SlE.nil, a3, SlE.nil, SlE.nil, a11, hd_of (by omega), hd_of (by omega), hd_of (by omega), hd_of (by omega), hd_of (by omega)⟩
  have a16 : RdR (egW w h) (lo (egW w h).heap.size) (some ⟨h + 1 + 1 + 1 + 1 + 1 + 1 + 1 + 1 + 1 + 1 + 1 + 1 + 1 + 1 + 1 + 1, 0, none⟩) 1 [⟨[], [[0]], [], [2, 2], [], 0⟩] := sle_one k16 (lt k16) _ ⟨none, 0, 0, _, 1, 1, none, 0, 0, _, 2, 2, none, 0, 0, rfl, SlE.nil, a14, SlE.nil, a15, SlE.nil, hd_of (by omega), hd_of (by omega), hd_of (by omega), hd_of (by omega), hd_of (by omega)⟩
  have a20 : RdR (egW w h) (lo (egW w h).heap.size) (some ⟨h + 1 + 1 + 1 + 1 + 1 + 1 + 1 + 1 + 1 + 1 + 1 + 1 + 1 + 1 + 1 + 1 + 1 + 1 + 1 + 1, 0, none⟩) 1 [⟨[], [[2]], [], [3], [], 0⟩] := sle_one k20 (lt k20) _ ⟨none, 0, 0, _, 1, 1, none, 0, 0, _, 1, 1, none, 0, 0, rfl, SlE.nil, a18, SlE.nil, a19, SlE.nil, hd_of (by omega), hd_of (by omega), hd_of (by omega), hd_of (by omega), hd_of (by omega)⟩
  have a26 : RdR (egW w h) (lo (egW w h).heap.size) (some ⟨h + 1 + 1 + 1 + 1 + 1 + 1 + 1 + 1 + 1 + 1 + 1 + 1 + 1 + 1 + 1 + 1 + 1 + 1 + 1 + 1 + 1 + 1 + 1 + 1 + 1 + 1, 0, none⟩) 1 [⟨[], [[0]], [[1]], [1], [], 0⟩] := sle_one k26 (lt k26) _ ⟨none, 0, 0, _, 1, 1, _, 1, 1, _, 1, 1, none, 0, 0, rfl, SlE.nil, a22, a24, a25, SlE.nil, hd_of (by omega), hd_of (by omega), hd_of (by omega), hd_of (by omega), hd_of (by omega)⟩
  have a30 : RdR (egW w h) (lo (egW w h).heap.size) (some ⟨h + 1 + 1 + 1 + 1 + 1 + 1 + 1 + 1 + 1 + 1 + 1 + 1 + 1 + 1 + 1 + 1 + 1 + 1 + 1 + 1 + 1 + 1 + 1 + 1 + 1 + 1 + 1 + 1 + 1 + 1, 0, none⟩) 1 [⟨[], [[0], [0]], [], [], [], 5⟩] := sle_one k30 (lt k30) _ ⟨none, 0, 0, _, 2, 2, none, 0, 0, none, 0, 0, none, 0, 0, rfl, SlE.nil, a29, SlE.nil, SlE.nil, SlE.nil, hd_of (by omega), hd_of (by omega), hd_of (by omega), hd_of (by omega), hd_of (by omega)⟩
  have gly : RdG (egW w h) (lo (egW w h).heap.size) (some ⟨h + 1 + 1 + 1 + 1, 0, none⟩) 5 egF.gly := sle_bk k4 (lt k4) _ rfl fun i x hx => by
    match i, hx with
    | 0, hx => injection hx with hx; subst hx; exact ⟨_, ⟨.string ⟨#[]⟩, .int .i64 0, .slice none 0 0, .slice none 0 0, .slice none 0 0, none, 0, 0, .slice none 0 0, .slice none 0 0, rfl, SlE.nil, hd_of (by omega)⟩, fun j v hv => by match j, hv with | 0, hv => exact hv | 1, hv => exact hv | 2, hv => exact hv | 3, hv => exact hv | 4, hv => exact hv | 5, hv => exact hv | 6, hv => exact hv | 7, hv => exact hv | 8, hv => exact hv⟩
    | 1, hx => injection hx with hx; subst hx; exact ⟨_, ⟨.string ⟨#[]⟩, .int .i64 0, .slice none 0 0, .slice none 0 0, .slice none 0 0, none, 0, 0, .slice none 0 0, .slice none 0 0, rfl, SlE.nil, hd_of (by omega)⟩, fun j v hv => by match j, hv with | 0, hv => exact hv | 1, hv => exact hv | 2, hv => exact hv | 3, hv => exact hv | 4, hv => exact hv | 5, hv => exact hv | 6, hv => exact hv | 7, hv => exact hv | 8, hv => exact hv⟩
    | 2, hx => injection hx with hx; subst hx; exact ⟨_, ⟨.string ⟨#[]⟩, .int .i64 0, .slice none 0 0, .slice none 0 0, .slice none 0 0, none, 0, 0, .slice none 0 0, .slice none 0 0, rfl, SlE.nil, hd_of (by omega)⟩, fun j v hv => by match j, hv with | 0, hv => exact hv | 1, hv => exact hv | 2, hv => exact hv | 3, hv => exact hv | 4, hv => exact hv | 5, hv => exact hv | 6, hv => exact hv | 7, hv => exact hv | 8, hv => exact hv⟩
    | 3, hx => injection hx with hx; subst hx; exact ⟨_, ⟨.string ⟨#[]⟩, .int .i64 0, .slice none 0 0, .slice none 0 0, .slice none 0 0, none, 0, 0, .slice none 0 0, .slice none 0 0, rfl, SlE.nil, hd_of (by omega)⟩, fun j v hv => by match j, hv with | 0, hv => exact hv | 1, hv => exact hv | 2, hv => exact hv | 3, hv => exact hv | 4, hv => exact hv | 5, hv => exact hv | 6, hv => exact hv | 7, hv => exact hv | 8, hv => exact hv⟩
    | 4, hx => injection hx with hx; subst hx; exact ⟨_, ⟨.string ⟨#[]⟩, .int .i64 0, .slice none 0 0, .slice none 0 0, .slice none 0 0, none, 0, 0, .slice none 0 0, .slice none 0 0, rfl, SlE.nil, hd_of (by omega)⟩, fun j v hv => by match j, hv with | 0, hv => exact hv | 1, hv => exact hv | 2, hv => exact hv | 3, hv => exact hv | 4, hv => exact hv | 5, hv => exact hv | 6, hv => exact hv | 7, hv => exact hv | 8, hv => exact hv⟩
  have lks : RdL (egW w h) (lo (egW w h).heap.size) (some ⟨h + 1 + 1 + 1 + 1 + 1 + 1 + 1 + 1 + 1 + 1 + 1 + 1 + 1 + 1 + 1 + 1 + 1 + 1 + 1 + 1 + 1 + 1 + 1 + 1 + 1 + 1 + 1 + 1 + 1 + 1 + 1, 0, none⟩) 7 egF.lks := sle_bk k31 (lt k31) _ rfl fun i x hx => by
    match i, hx with
    | 0, hx => injection hx with hx; subst hx; exact ⟨_, ⟨_, 1, 1, rfl, a6, hd_of (by omega)⟩, fun j v hv => by match j, hv with | 0, hv => exact hv | 1, hv => exact hv | 2, hv => exact hv⟩
    | 1, hx => injection hx with hx; subst hx; exact ⟨_, ⟨_, 1, 1, rfl, a10, hd_of (by omega)⟩, fun j v hv => by match j, hv with | 0, hv => exact hv | 1, hv => exact hv | 2, hv => exact hv⟩
    | 2, hx => injection hx with hx; subst hx; exact ⟨_, ⟨_, 1, 1, rfl, a12, hd_of (by omega)⟩, fun j v hv => by match j, hv with | 0, hv => exact hv | 1, hv => exact hv | 2, hv => exact hv⟩
    | 3, hx => injection hx with hx; subst hx; exact ⟨_, ⟨_, 1, 1, rfl, a16, hd_of (by omega)⟩, fun j v hv => by match j, hv with | 0, hv => exact hv | 1, hv => exact hv | 2, hv => exact hv⟩
    | 4, hx => injection hx with hx; subst hx; exact ⟨_, ⟨_, 1, 1, rfl, a20, hd_of (by omega)⟩, fun j v hv => by match j, hv with | 0, hv => exact hv | 1, hv => exact hv | 2, hv => exact hv⟩
    | 5, hx => injection hx with hx; subst hx; exact ⟨_, ⟨_, 1, 1, rfl, a26, hd_of (by omega)⟩, fun j v hv => by match j, hv with | 0, hv => exact hv | 1, hv => exact hv | 2, hv => exact hv⟩
    | 6, hx => injection hx with hx; subst hx; exact ⟨_, ⟨_, 1, 1, rfl, a30, hd_of (by omega)⟩, fun j v hv => by match j, hv with | 0, hv => exact hv | 1, hv => exact hv | 2, hv => exact hv⟩
  refine ⟨⟨gly, lks, hd_of (by show 5 ≤ 9; omega), hd_of (by show 7 ≤ 9; omega)⟩, ?_, k0⟩
  subst hh
  exact allocs_below _ w w (Below.refl _ _)

set_option maxRecDepth 100000 in
set_option maxHeartbeats 4000000 in
theorem font_c (w : World) : Calls Try.prog 30 #[] w (EgPost w) := by
  go_enter Try.func30, Try.ntmps30
  go_wp2_with (go_at_call 45; refine (set_c _ _).mono ?_; rintro e w' ⟨rfl, rfl⟩)
  obtain ⟨h1, h2, h3⟩ := eg_isf w w.heap.size rfl
  change bodyPost Try.prog Try.f30 (EgPost w) Exit.ret _ (egW w w.heap.size)
  exact bodyPost_ret (results_cell_row rfl _ _ w.heap.size 31 _ (0, 0) _ rfl h3 Try.underlying31 rfl (by kernel_rfl)) rfl ⟨egV w.heap.size, rfl, h1, h2⟩

end Go.Proofs.Ytkoocipagndclaa
