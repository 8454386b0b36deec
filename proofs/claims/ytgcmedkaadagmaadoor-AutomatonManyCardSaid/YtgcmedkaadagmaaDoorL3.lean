/- Walks: shown. -/
import Derived.Test.YtgcmedkaadagmaaDoorL2
namespace Go.Proofs.YtgcmedkaadagmaaDoor
open Go.RowKit Go.Shelf Go.Maps

theorem allocs_at : ∀ (l : List Obj) (w : World) (i : Nat) (o : Obj), l[i]? = some o → (l.foldl World.alloc w).heap[w.heap.size + i]? = some o
  | [], _, _, _, h => by simp at h
  | a :: t, w, 0, o, h => by
    simp at h; subst h
    have key : ∀ (l : List Obj) (w : World) (j : Nat), j < w.heap.size → (l.foldl World.alloc w).heap[j]? = w.heap[j]? := by
      intro l
      induction l with
      | nil => intro w j _; rfl
      | cons b l ih => intro w j hj; rw [List.foldl_cons, ih _ _ (by simp; omega)]; exact Below.heap_alloc w b j hj
    rw [List.foldl_cons, Nat.add_zero, key _ _ _ (by simp)]
    exact heap_alloc_new w a
  | a :: t, w, i + 1, o, h => by
    have h1 := allocs_at t (w.alloc a) i o (by simpa using h)
    rw [World.size_alloc] at h1
    rw [List.foldl_cons, show w.heap.size + (i + 1) = w.heap.size + 1 + i by omega]
    exact h1
theorem allocs_below : ∀ (l : List Obj) (w0 w : World), Below w0.heap.size w0 w → Below w0.heap.size w0 (l.foldl World.alloc w)
  | [], _, _, h => h
  | a :: t, w0, w, h => allocs_below t w0 (w.alloc a) (below_lit w0 w h a)
theorem rd_bk {w : World} {g t n : Nat} {cs : Array Value} (hk : Bk w g t cs) (xs : List Int) (hl : xs.length = n) (h : cs.toList = ic xs) : Rd w (lo w.heap.size) (some ⟨g, 0, none⟩) n xs := by
  refine ⟨hl, fun _ => ⟨g, 0, rfl, hk.lt, fun i x hx => ⟨_, rfl, fun j v hv => ?_⟩⟩⟩
  match j, hv with
  | 0, hv =>
    injection hv with hv; subst hv
    rw [Nat.zero_add, Nat.mul_one, Nat.add_zero]
    refine box_cells hk i ?_
    rw [← Array.getElem?_toList, h]; simp [ic, hx]
theorem rdU_bk {w : World} {g t n : Nat} {cs : Array Value} (hk : Bk w g t cs) (xs : List Nat) (hl : xs.length = n) (h : cs.toList = uc xs) (hs : ∀ x ∈ xs, x < 18446744073709551616) : RdU w (lo w.heap.size) (some ⟨g, 0, none⟩) n xs := by
  refine ⟨hl, fun _ => ⟨g, 0, rfl, hk.lt, fun i x hx => ⟨_, ⟨rfl, hs x (List.mem_of_getElem? hx)⟩, fun j v hv => ?_⟩⟩⟩
  match j, hv with
  | 0, hv =>
    injection hv with hv; subst hv
    rw [Nat.zero_add, Nat.mul_one, Nat.add_zero]
    refine box_cells hk i ?_
    rw [← Array.getElem?_toList, h]; simp [uc, hx]
theorem rdV_bk {w : World} {g t n : Nat} {cs : Array Value} (hk : Bk w g t cs) (xss : List (List Int)) (hl : xss.length = n) (h : ∀ (i : Nat) (xs : List Int), xss[i]? = some xs → ∃ (A : Option Addr) (m c : Nat), cs[i]? = some (Value.slice A m c) ∧ Rd w (lo w.heap.size) A m xs ∧ Hd m c) : RdV w (lo w.heap.size) (some ⟨g, 0, none⟩) n xss := by
  refine ⟨hl, fun _ => ⟨g, 0, rfl, hk.lt, fun i x hx => ?_⟩⟩
  obtain ⟨A, m, c, h1, h2, h3⟩ := h i x hx
  refine ⟨_, ⟨A, m, c, rfl, h2, h3⟩, fun j v hv => ?_⟩
  match j, hv with
  | 0, hv =>
    injection hv with hv; subst hv
    rw [Nat.zero_add, Nat.mul_one, Nat.add_zero]
    exact box_cells hk i h1
theorem hd_le {n c : Nat} (h : n ≤ c ∧ c ≤ 1000) : Hd n c := ⟨h.1, by omega⟩
def shR : List Rul := [⟨[], [[0], [1]], [], [], [], 0⟩, ⟨[], [[0]], [], [], [], 0⟩]
def shA : Au := ⟨[0, 1, 2], [[1, -1, -1], [-1, 2, -1], [-1, -1, -1]], [[-1, -1, -1]], [0, 2, 1], [3]⟩
def shL1 (h : Nat) : List Obj := [.cells #[.int .i64 0] 3,
  .cells #[.int .i64 1] 3,
  .cells #[.slice (some ⟨h, 0, none⟩) 1 1, .slice (some ⟨h + 1, 0, none⟩) 1 1] 23,
  .cells #[.int .i64 0] 3,
  .cells #[.slice (some ⟨h + 1 + 1 + 1, 0, none⟩) 1 1] 23,
  .cells #[.slice none 0 0, .slice (some ⟨h + 1 + 1, 0, none⟩) 2 2, .slice none 0 0, .slice none 0 0, .slice none 0 0, .int .i64 0, .slice none 0 0, .slice (some ⟨h + 1 + 1 + 1 + 1, 0, none⟩) 1 1, .slice none 0 0, .slice none 0 0, .slice none 0 0, .int .i64 0] 58]
def shL2 (h : Nat) : List Obj := [.cells #[.int .i64 0, .int .i64 1, .int .i64 2] 3,
  .cells #[.int .i64 1, .int .i64 (-1), .int .i64 (-1)] 3,
  .cells #[.int .i64 (-1), .int .i64 2, .int .i64 (-1)] 3,
  .cells #[.int .i64 (-1), .int .i64 (-1), .int .i64 (-1)] 3,
  .cells #[.slice (some ⟨h + 1, 0, none⟩) 3 3, .slice (some ⟨h + 1 + 1, 0, none⟩) 3 3, .slice (some ⟨h + 1 + 1 + 1, 0, none⟩) 3 3] 23,
  .cells #[.int .i64 (-1), .int .i64 (-1), .int .i64 (-1)] 3,
  .cells #[.slice (some ⟨h + 1 + 1 + 1 + 1 + 1, 0, none⟩) 3 3] 23,
  .cells #[.int .u64 0, .int .u64 2, .int .u64 1] 50,
  .cells #[.int .u64 3] 50]
def shW1 (w : World) : World := (shL1 w.heap.size).foldl World.alloc w
def shW2 (w : World) : World := (shL2 w.heap.size).foldl World.alloc w
set_option maxRecDepth 100000 in
theorem sh1_rd (w : World) : RdR (shW1 w) (lo (shW1 w).heap.size) (some ⟨w.heap.size + 1 + 1 + 1 + 1 + 1, 0, none⟩) 2 shR ∧ Below w.heap.size w (shW1 w) := by

  have at' : ∀ (i : Nat) (o : Obj), (shL1 w.heap.size)[i]? = some o → (shW1 w).heap[w.heap.size + i]? = some o := fun i o hi => allocs_at _ w i o hi
  have k0 : Bk (shW1 w) (w.heap.size) 3 #[.int .i64 0] := at' 0 _ rfl
  have k1 : Bk (shW1 w) (w.heap.size + 1) 3 #[.int .i64 1] := at' 1 _ rfl
  have k2 : Bk (shW1 w) (w.heap.size + 1 + 1) 23 #[.slice (some ⟨w.heap.size, 0, none⟩) 1 1, .slice (some ⟨w.heap.size + 1, 0, none⟩) 1 1] := at' 2 _ rfl
  have k3 : Bk (shW1 w) (w.heap.size + 1 + 1 + 1) 3 #[.int .i64 0] := at' 3 _ rfl
  have k4 : Bk (shW1 w) (w.heap.size + 1 + 1 + 1 + 1) 23 #[.slice (some ⟨w.heap.size + 1 + 1 + 1, 0, none⟩) 1 1] := at' 4 _ rfl
  have k5 : Bk (shW1 w) (w.heap.size + 1 + 1 + 1 + 1 + 1) 58 #[.slice none 0 0, .slice (some ⟨w.heap.size + 1 + 1, 0, none⟩) 2 2, .slice none 0 0, .slice none 0 0, .slice none 0 0, .int .i64 0, .slice none 0 0, .slice (some ⟨w.heap.size + 1 + 1 + 1 + 1, 0, none⟩) 1 1, .slice none 0 0, .slice none 0 0, .slice none 0 0, .int .i64 0] := at' 5 _ rfl
  have a0 := rd_bk (n := 1) k0 [0] rfl rfl
  have a1 := rd_bk (n := 1) k1 [1] rfl rfl
  have a3 := rd_bk (n := 1) k3 [0] rfl rfl
  have a2 := rdV_bk k2 [[0], [1]] rfl (n := 2) fun i xs hx => by
    match i, hx with
    | 0, hx => injection hx with hx; subst hx; exact ⟨_, _, _, rfl, a0, hd_le (by omega)⟩
    | 1, hx => injection hx with hx; subst hx; exact ⟨_, _, _, rfl, a1, hd_le (by omega)⟩
  have a4 := rdV_bk k4 [[0]] rfl (n := 1) fun i xs hx => by
    match i, hx with
    | 0, hx => injection hx with hx; subst hx; exact ⟨_, _, _, rfl, a3, hd_le (by omega)⟩
  refine ⟨⟨rfl, fun _ => ⟨_, 0, rfl, k5.lt, fun i x hx => ?_⟩⟩, allocs_below _ w w (Below.refl _ _)⟩
  match i, hx with
  | 0, hx =>
    injection hx with hx; subst hx
    refine ⟨_, ⟨none, 0, 0, _, 2, 2, none, 0, 0, none, 0, 0, none, 0, 0, rfl, SlE.nil, a2, SlE.nil, SlE.nil, SlE.nil, hd_le (by omega), hd_le (by omega), hd_le (by omega), hd_le (by omega), hd_le (by omega)⟩, fun j v hv => ?_⟩
    match j, hv with
    | 0, hv => exact box_cells k5 0 hv
    | 1, hv => exact box_cells k5 1 hv
    | 2, hv => exact box_cells k5 2 hv
    | 3, hv => exact box_cells k5 3 hv
    | 4, hv => exact box_cells k5 4 hv
    | 5, hv => exact box_cells k5 5 hv
  | 1, hx =>
    injection hx with hx; subst hx
    refine ⟨_, ⟨none, 0, 0, _, 1, 1, none, 0, 0, none, 0, 0, none, 0, 0, rfl, SlE.nil, a4, SlE.nil, SlE.nil, SlE.nil, hd_le (by omega), hd_le (by omega), hd_le (by omega), hd_le (by omega), hd_le (by omega)⟩, fun j v hv => ?_⟩
    match j, hv with
    | 0, hv => exact box_cells k5 6 hv
    | 1, hv => exact box_cells k5 7 hv
    | 2, hv => exact box_cells k5 8 hv
    | 3, hv => exact box_cells k5 9 hv
    | 4, hv => exact box_cells k5 10 hv
    | 5, hv => exact box_cells k5 11 hv
def shV (h : Nat) : AV := ⟨some ⟨h, 0, none⟩, 3, 3, some ⟨h + 1 + 1 + 1 + 1, 0, none⟩, 3, 3, some ⟨h + 1 + 1 + 1 + 1 + 1 + 1, 0, none⟩, 1, 1, some ⟨h + 1 + 1 + 1 + 1 + 1 + 1 + 1, 0, none⟩, 3, 3, some ⟨h + 1 + 1 + 1 + 1 + 1 + 1 + 1 + 1, 0, none⟩, 1, 1⟩
set_option maxRecDepth 100000 in
theorem sh2_rd (w : World) : IsA (shW2 w) (lo (shW2 w).heap.size) (shV w.heap.size) shA ∧ Below w.heap.size w (shW2 w) := by
  have at' : ∀ (i : Nat) (o : Obj), (shL2 w.heap.size)[i]? = some o → (shW2 w).heap[w.heap.size + i]? = some o := fun i o hi => allocs_at _ w i o hi
  have k0 : Bk (shW2 w) (w.heap.size) 3 #[.int .i64 0, .int .i64 1, .int .i64 2] := at' 0 _ rfl
  have k1 : Bk (shW2 w) (w.heap.size + 1) 3 #[.int .i64 1, .int .i64 (-1), .int .i64 (-1)] := at' 1 _ rfl
  have k2 : Bk (shW2 w) (w.heap.size + 1 + 1) 3 #[.int .i64 (-1), .int .i64 2, .int .i64 (-1)] := at' 2 _ rfl
  have k3 : Bk (shW2 w) (w.heap.size + 1 + 1 + 1) 3 #[.int .i64 (-1), .int .i64 (-1), .int .i64 (-1)] := at' 3 _ rfl
  have k4 : Bk (shW2 w) (w.heap.size + 1 + 1 + 1 + 1) 23 #[.slice (some ⟨w.heap.size + 1, 0, none⟩) 3 3, .slice (some ⟨w.heap.size + 1 + 1, 0, none⟩) 3 3, .slice (some ⟨w.heap.size + 1 + 1 + 1, 0, none⟩) 3 3] := at' 4 _ rfl
  have k5 : Bk (shW2 w) (w.heap.size + 1 + 1 + 1 + 1 + 1) 3 #[.int .i64 (-1), .int .i64 (-1), .int .i64 (-1)] := at' 5 _ rfl
  have k6 : Bk (shW2 w) (w.heap.size + 1 + 1 + 1 + 1 + 1 + 1) 23 #[.slice (some ⟨w.heap.size + 1 + 1 + 1 + 1 + 1, 0, none⟩) 3 3] := at' 6 _ rfl
  have k7 : Bk (shW2 w) (w.heap.size + 1 + 1 + 1 + 1 + 1 + 1 + 1) 50 #[.int .u64 0, .int .u64 2, .int .u64 1] := at' 7 _ rfl
  have k8 : Bk (shW2 w) (w.heap.size + 1 + 1 + 1 + 1 + 1 + 1 + 1 + 1) 50 #[.int .u64 3] := at' 8 _ rfl
  have a0 := rd_bk (n := 3) k0 [0, 1, 2] rfl rfl
  have a1 := rd_bk (n := 3) k1 [1, -1, -1] rfl rfl
  have a2 := rd_bk (n := 3) k2 [-1, 2, -1] rfl rfl
  have a3 := rd_bk (n := 3) k3 [-1, -1, -1] rfl rfl
  have a5 := rd_bk (n := 3) k5 [-1, -1, -1] rfl rfl
  have a4 := rdV_bk k4 [[1, -1, -1], [-1, 2, -1], [-1, -1, -1]] rfl (n := 3) fun i xs hx => by
    match i, hx with
    | 0, hx => injection hx with hx; subst hx; exact ⟨_, _, _, rfl, a1, hd_le (by omega)⟩
    | 1, hx => injection hx with hx; subst hx; exact ⟨_, _, _, rfl, a2, hd_le (by omega)⟩
    | 2, hx => injection hx with hx; subst hx; exact ⟨_, _, _, rfl, a3, hd_le (by omega)⟩
  have a6 := rdV_bk k6 [[-1, -1, -1]] rfl (n := 1) fun i xs hx => by
    match i, hx with
    | 0, hx => injection hx with hx; subst hx; exact ⟨_, _, _, rfl, a5, hd_le (by omega)⟩
  have a7 := rdU_bk (n := 3) k7 [0, 2, 1] rfl rfl (by decide)
  have a8 := rdU_bk (n := 1) k8 [3] rfl rfl (by decide)
  exact ⟨⟨⟨a0, a4, a7, hd_le (n := 3) (c := 3) (by omega), hd_le (n := 3) (c := 3) (by omega), hd_le (n := 3) (c := 3) (by omega)⟩, ⟨a0, a6, a8, hd_le (n := 3) (c := 3) (by omega), hd_le (n := 1) (c := 1) (by omega), hd_le (n := 1) (c := 1) (by omega)⟩⟩, allocs_below _ w w (Below.refl _ _)⟩
theorem sh_auto : autoL shR 3 = some shA := by kernel_rfl
theorem sh_sm : SmB shR := ⟨by decide, by decide, by decide⟩
theorem sh_build0 : buildL (fontF 3 shR) 0 = (some shA, 0) := by
  unfold buildL
  rw [fontF_lk, if_pos rfl]
  dsimp only
  rw [fontF_len, if_neg (by omega), if_neg (by decide), sh_auto]
theorem sh_build1 : buildL (fontF 3 shR) 1 = (none, 1) := by
  unfold buildL
  rw [fontF_lk, if_neg (by omega)]
theorem sh_does : DoesF (fontF 3 shR) 0 shA := ⟨⟨4, false, shR⟩, shA, 0, by rw [fontF_lk, if_pos rfl], sh_build0, by rw [fontF_len]; exact doesL_built sh_auto⟩

end Go.Proofs.YtgcmedkaadagmaaDoor
