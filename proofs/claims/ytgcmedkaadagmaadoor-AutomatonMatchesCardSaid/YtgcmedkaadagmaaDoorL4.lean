/- Walks: shown. -/
import Derived.Test.YtgcmedkaadagmaaDoorL2
namespace Go.Proofs.YtgcmedkaadagmaaDoor
open Go.RowKit Go.Shelf Go.Maps

theorem allocs_at : ∀ (l : List Obj) (w : World) (i : Nat) (o : Obj), l[i]? = some o → (l.foldl World.alloc w).heap[w.heap.size + i]? = some o
 | [], _, _, _, h => by simp at h
 | a :: t, w, 0, o, h => by
  simp at h; subst h
  have key : ∀ (l : List Obj) (w : World) (j : Nat), j < w.heap.size → (l.foldl World.alloc w).heap[j]? = w.heap[j]? := by
   intro l
   induction l with
   | nil => intro w j _; rfl
   | cons b l ih => intro w j hj; rw [List.foldl_cons, ih _ _ (by simp; omega)]; exact Below.heap_alloc w b j hj
  rw [List.foldl_cons, Nat.add_zero, key _ _ _ (by simp)]
  exact heap_alloc_new w a
 | a :: t, w, i + 1, o, h => by
  have h1 := allocs_at t (w.alloc a) i o (by simpa using h)
  rw [World.size_alloc] at h1
  rw [List.foldl_cons, show w.heap.size + (i + 1) = w.heap.size + 1 + i by omega]
  exact h1
theorem allocs_below : ∀ (l : List Obj) (w0 w : World), Below w0.heap.size w0 w → Below w0.heap.size w0 (l.foldl World.alloc w)
 | [], _, _, h => h
 | a :: t, w0, w, h => allocs_below t w0 (w.alloc a) (below_lit w0 w h a)
theorem rd_bk {w : World} {g t n : Nat} {cs : Array Value} (hk : Bk w g t cs) (xs : List Int) (hl : xs.length = n) (h : cs.toList = ic xs) : Rd w (lo w.heap.size) (some ⟨g, 0, none⟩) n xs := by
 refine ⟨hl, fun _ => ⟨g, 0, rfl, hk.lt, fun i x hx => ⟨_, rfl, fun j v hv => ?_⟩⟩⟩
 match j, hv with
 | 0, hv =>
  injection hv with hv; subst hv
  rw [Nat.zero_add, Nat.mul_one, Nat.add_zero]
  refine box_cells hk i ?_
  rw [← Array.getElem?_toList, h]; simp [ic, hx]
theorem rdU_bk {w : World} {g t n : Nat} {cs : Array Value} (hk : Bk w g t cs) (xs : List Nat) (hl : xs.length = n) (h : cs.toList = uc xs) (hs : ∀ x ∈ xs, x < 18446744073709551616) : RdU w (lo w.heap.size) (some ⟨g, 0, none⟩) n xs := by
 refine ⟨hl, fun _ => ⟨g, 0, rfl, hk.lt, fun i x hx => ⟨_, ⟨rfl, hs x (List.mem_of_getElem? hx)⟩, fun j v hv => ?_⟩⟩⟩
 match j, hv with
 | 0, hv =>
  injection hv with hv; subst hv
  rw [Nat.zero_add, Nat.mul_one, Nat.add_zero]
  refine box_cells hk i ?_
  rw [← Array.getElem?_toList, h]; simp [uc, hx]
theorem rdV_bk {w : World} {g t n : Nat} {cs : Array Value} (hk : Bk w g t cs) (xss : List (List Int)) (hl : xss.length = n) (h : ∀ (i : Nat) (xs : List Int), xss[i]? = some xs → ∃ (A : Option Addr) (m c : Nat), cs[i]? = some (Value.slice A m c) ∧ Rd w (lo w.heap.size) A m xs ∧ Hd m c) : RdV w (lo w.heap.size) (some ⟨g, 0, none⟩) n xss := by
 refine ⟨hl, fun _ => ⟨g, 0, rfl, hk.lt, fun i x hx => ?_⟩⟩
 obtain ⟨A, m, c, h1, h2, h3⟩ := h i x hx
 refine ⟨_, ⟨A, m, c, rfl, h2, h3⟩, fun j v hv => ?_⟩
 match j, hv with
 | 0, hv =>
  injection hv with hv; subst hv
  rw [Nat.zero_add, Nat.mul_one, Nat.add_zero]
  exact box_cells hk i h1
theorem hd_le {n c : Nat} (h : n ≤ c ∧ c ≤ 1000) : Hd n c := ⟨h.1, by omega⟩
def shR : List Rul := [⟨[], [[0], [1]], [], [], [], 0⟩, ⟨[], [[0]], [], [], [], 0⟩]
def shA : Au := ⟨[0, 1, 2], [[1, -1, -1], [-1, 2, -1], [-1, -1, -1]], [[-1, -1, -1]], [0, 2, 1], [3]⟩
def shL1 (h : Nat) : List Obj := [.cells #[.int .i64 0] 3,
 .cells #[.int .i64 1] 3,
 .cells #[.slice (some ⟨h, 0, none⟩) 1 1, .slice (some ⟨h + 1, 0, none⟩) 1 1] 23,
 .cells #[.int .i64 0] 3,
 .cells #[.slice (some ⟨h + 1 + 1 + 1, 0, none⟩) 1 1] 23,
 .cells #[.slice none 0 0, .slice (some ⟨h + 1 + 1, 0, none⟩) 2 2, .slice none 0 0, .slice none 0 0, .slice none 0 0, .int .i64 0, .slice none 0 0, .slice (some ⟨h + 1 + 1 + 1 + 1, 0, none⟩) 1 1, .slice none 0 0, .slice none 0 0, .slice none 0 0, .int .i64 0] 58]
def shL2 (h : Nat) : List Obj := [.cells #[.int .i64 0, .int .i64 1, .int .i64 2] 3,
 .cells #[.int .i64 1, .int .i64 (-1), .int .i64 (-1)] 3,
 .cells #[.int .i64 (-1), .int .i64 2, .int .i64 (-1)] 3,
 .cells #[.int .i64 (-1), .int .i64 (-1), .int .i64 (-1)] 3,
 .cells #[.slice (some ⟨h + 1, 0, none⟩) 3 3, .slice (some ⟨h + 1 + 1, 0, none⟩) 3 3, .slice (some ⟨h + 1 + 1 + 1, 0, none⟩) 3 3] 23,
 .cells #[.int .i64 (-1), .int .i64 (-1), .int .i64 (-1)] 3,
 .cells #[.slice (some ⟨h + 1 + 1 + 1 + 1 + 1, 0, none⟩) 3 3] 23,
 .cells #[.int .u64 0, .int .u64 2, .int .u64 1] 50,
 .cells #[.int .u64 3] 50]
def shW1 (w : World) : World := (shL1 w.heap.size).foldl World.alloc w
def shW2 (w : World) : World := (shL2 w.heap.size).foldl World.alloc w
set_option maxRecDepth 100000 in
theorem sh1_rd (w : World) : RdR (shW1 w) (lo (shW1 w).heap.size) (some ⟨w.heap.size + 1 + 1 + 1 + 1 + 1, 0, none⟩) 2 shR ∧ Below w.heap.size w (shW1 w) := by

 have at' : ∀ (i : Nat) (o : Obj), (shL1 w.heap.size)[i]? = some o → (shW1 w).heap[w.heap.size + i]? = some o := fun i o hi => allocs_at _ w i o hi
 have k0 : Bk (shW1 w) (w.heap.size) 3 #[.int .i64 0] := at' 0 _ rfl
 have k1 : Bk (shW1 w) (w.heap.size + 1) 3 #[.int .i64 1] := at' 1 _ rfl
 have k2 : Bk (shW1 w) (w.heap.size + 1 + 1) 23 #[.slice (some ⟨w.heap.size, 0, none⟩) 1 1, .slice (some ⟨w.heap.size + 1, 0, none⟩) 1 1] := at' 2 _ rfl
 have k3 : Bk (shW1 w) (w.heap.size + 1 + 1 + 1) 3 #[.int .i64 0] := at' 3 _ rfl
 have k4 : Bk (shW1 w) (w.heap.size + 1 + 1 + 1 + 1) 23 #[.slice (some ⟨w.heap.size + 1 + 1 + 1, 0, none⟩) 1 1] := at' 4 _ rfl
 have k5 : Bk (shW1 w) (w.heap.size + 1 + 1 + 1 + 1 + 1) 58 #[.slice none 0 0, .slice (some ⟨w.heap.size + 1 + 1, 0, none⟩) 2 2, .slice none 0 0, .slice none 0 0, .slice none 0 0, .int .i64 0, .slice none 0 0, .slice (some ⟨w.heap.size + 1 + 1 + 1 + 1, 0, none⟩) 1 1, .slice none 0 0, .slice none 0 0, .slice none 0 0, .int .i64 0] := at' 5 _ rfl
 have a0 := rd_bk (n := 1) k0 [0] rfl rfl
 have a1 := rd_bk (n := 1) k1 [1] rfl rfl
 have a3 := rd_bk (n := 1) k3 [0] rfl rfl
 have a2 := rdV_bk k2 [[0], [1]] rfl (n := 2) fun i xs hx => by
  match i, hx with
  | 0, hx => injection hx with hx; subst hx; exact ⟨_, _, _, rfl, a0, hd_le (by omega)⟩
  | 1, hx => injection hx with hx; subst hx; exact ⟨_, _, _, rfl, a1, hd_le (by omega)⟩
 have a4 := rdV_bk k4 [[0]] rfl (n := 1) fun i xs hx => by
  match i, hx with
  | 0, hx => injection hx with hx; subst hx; exact ⟨_, _, _, rfl, a3, hd_le (by omega)⟩
 refine ⟨⟨rfl, fun _ => ⟨_, 0, rfl, k5.lt, fun i x hx => ?_⟩⟩, allocs_below _ w w (Below.refl _ _)⟩
 match i, hx with
 | 0, hx =>
  injection hx with hx; subst hx
  refine ⟨_, ⟨none, 0, 0, _, 2, 2, none, 0, 0, none, 0, 0, none, 0, 0, rfl, SlE.nil, a2, SlE.nil, SlE.nil, SlE.nil, hd_le (by omega), hd_le (by omega), hd_le (by omega), hd_le (by omega), hd_le (by omega)⟩, fun j v hv => ?_⟩
  match j, hv with
  | 0, hv => exact box_cells k5 0 hv
  | 1, hv => exact box_cells k5 1 hv
  | 2, hv => exact box_cells k5 2 hv
  | 3, hv => exact box_cells k5 3 hv
  | 4, hv => exact box_cells k5 4 hv
  | 5, hv => exact box_cells k5 5 hv
 | 1, hx =>
  injection hx with hx; subst hx
  refine ⟨_, ⟨none, 0, 0, _, 1, 1, none, 0, 0, none, 0, 0, none, 0, 0, rfl, SlE.nil, a4, SlE.nil, SlE.nil, SlE.nil, hd_le (by omega), hd_le (by omega), hd_le (by omega), hd_le (by omega), hd_le (by omega)⟩, fun j v hv => ?_⟩
  match j, hv with
  | 0, hv => exact box_cells k5 6 hv
  | 1, hv => exact box_cells k5 7 hv
  | 2, hv => exact box_cells k5 8 hv
  | 3, hv => exact box_cells k5 9 hv
  | 4, hv => exact box_cells k5 10 hv
  | 5, hv => exact box_cells k5 11 hv
def shV (h : Nat) : AV := ⟨some ⟨h, 0, none⟩, 3, 3, some ⟨h + 1 + 1 + 1 + 1, 0, none⟩, 3, 3, some ⟨h + 1 + 1 + 1 + 1 + 1 + 1, 0, none⟩, 1, 1, some ⟨h + 1 + 1 + 1 + 1 + 1 + 1 + 1, 0, none⟩, 3, 3, some ⟨h + 1 + 1 + 1 + 1 + 1 + 1 + 1 + 1, 0, none⟩, 1, 1⟩
set_option maxRecDepth 100000 in
theorem sh2_rd (w : World) : IsA (shW2 w) (lo (shW2 w).heap.size) (shV w.heap.size) shA ∧ Below w.heap.size w (shW2 w) := by
 have at' : ∀ (i : Nat) (o : Obj), (shL2 w.heap.size)[i]? = some o → (shW2 w).heap[w.heap.size + i]? = some o := fun i o hi => allocs_at _ w i o hi
 have k0 : Bk (shW2 w) (w.heap.size) 3 #[.int .i64 0, .int .i64 1, .int .i64 2] := at' 0 _ rfl
 have k1 : Bk (shW2 w) (w.heap.size + 1) 3 #[.int .i64 1, .int .i64 (-1), .int .i64 (-1)] := at' 1 _ rfl
 have k2 : Bk (shW2 w) (w.heap.size + 1 + 1) 3 #[.int .i64 (-1), .int .i64 2, .int .i64 (-1)] := at' 2 _ rfl
 have k3 : Bk (shW2 w) (w.heap.size + 1 + 1 + 1) 3 #[.int .i64 (-1), .int .i64 (-1), .int .i64 (-1)] := at' 3 _ rfl
 have k4 : Bk (shW2 w) (w.heap.size + 1 + 1 + 1 + 1) 23 #[.slice (some ⟨w.heap.size + 1, 0, none⟩) 3 3, .slice (some ⟨w.heap.size + 1 + 1, 0, none⟩) 3 3, .slice (some ⟨w.heap.size + 1 + 1 + 1, 0, none⟩) 3 3] := at' 4 _ rfl
 have k5 : Bk (shW2 w) (w.heap.size + 1 + 1 + 1 + 1 + 1) 3 #[.int .i64 (-1), .int .i64 (-1), .int .i64 (-1)] := at' 5 _ rfl
 have k6 : Bk (shW2 w) (w.heap.size + 1 + 1 + 1 + 1 + 1 + 1) 23 #[.slice (some ⟨w.heap.size + 1 + 1 + 1 + 1 + 1, 0, none⟩) 3 3] := at' 6 _ rfl
 have k7 : Bk (shW2 w) (w.heap.size + 1 + 1 + 1 + 1 + 1 + 1 + 1) 50 #[.int .u64 0, .int .u64 2, .int .u64 1] := at' 7 _ rfl
 have k8 : Bk (shW2 w) (w.heap.size + 1 + 1 + 1 + 1 + 1 + 1 + 1 + 1) 50 #[.int .u64 3] := at' 8 _ rfl
 have a0 := rd_bk (n := 3) k0 [0, 1, 2] rfl rfl
 have a1 := rd_bk (n := 3) k1 [1, -1, -1] rfl rfl
 have a2 := rd_bk (n := 3) k2 [-1, 2, -1] rfl rfl
 have a3 := rd_bk (n := 3) k3 [-1, -1, -1] rfl rfl
 have a5 := rd_bk (n := 3) k5 [-1, -1, -1] rfl rfl
 have a4 := rdV_bk k4 [[1, -1, -1], [-1, 2, -1], [-1, -1, -1]] rfl (n := 3) fun i xs hx => by
  match i, hx with
  | 0, hx => injection hx with hx; subst hx; exact ⟨_, _, _, rfl, a1, hd_le (by omega)⟩
  | 1, hx => injection hx with hx; subst hx; exact ⟨_, _, _, rfl, a2, hd_le (by omega)⟩
  | 2, hx => injection hx with hx; subst hx; exact ⟨_, _, _, rfl, a3, hd_le (by omega)⟩
 have a6 := rdV_bk k6 [[-1, -1, -1]] rfl (n := 1) fun i xs hx => by
  match i, hx with
  | 0, hx => injection hx with hx; subst hx; exact ⟨_, _, _, rfl, a5, hd_le (by omega)⟩
 have a7 := rdU_bk (n := 3) k7 [0, 2, 1] rfl rfl (by decide)
 have a8 := rdU_bk (n := 1) k8 [3] rfl rfl (by decide)
 exact ⟨⟨⟨a0, a4, a7, hd_le (n := 3) (c := 3) (by omega), hd_le (n := 3) (c := 3) (by omega), hd_le (n := 3) (c := 3) (by omega)⟩, ⟨a0, a6, a8, hd_le (n := 3) (c := 3) (by omega), hd_le (n := 1) (c := 1) (by omega), hd_le (n := 1) (c := 1) (by omega)⟩⟩, allocs_below _ w w (Below.refl _ _)⟩
theorem sh_auto : autoL shR 3 = some shA := by kernel_rfl
theorem sh_sm : SmB shR := ⟨by decide, by decide, by decide⟩
theorem sh_build0 : buildL (fontF 3 shR) 0 = (some shA, 0) := by
 unfold buildL
 rw [fontF_lk, if_pos rfl]
 dsimp only
 rw [fontF_len, if_neg (by omega), if_neg (by decide), sh_auto]
theorem sh_build1 : buildL (fontF 3 shR) 1 = (none, 1) := by
 unfold buildL
 rw [fontF_lk, if_neg (by omega)]
theorem sh_does : DoesF (fontF 3 shR) 0 shA := ⟨⟨4, false, shR⟩, shA, 0, by rw [fontF_lk, if_pos rfl], sh_build0, by rw [fontF_len]; exact doesL_built sh_auto⟩


theorem lit_call {w W : World} (_ : Below w.heap.size w W) (o : Obj) : Below W.heap.size W (W.alloc o) := (Below.refl _ _).alloc (Nat.le_refl _) _
theorem sh_hs (k : Int) : ∀ lk, lkAt (fontF 3 shR) k = some lk → lk.rules.length ≤ 64 → SmB lk.rules := fun lk h _ => by
 rw [fontF_lk] at h
 split at h
 ·injection h with h; rw [← h]; exact sh_sm
 ·cases h
theorem sh_first1 : firstZ (backA shA [] &&& foreA shA [0, 1]) = 0 := by decide +kernel
theorem sh_first2 : firstZ (backA shA [] &&& foreA shA [0, 2]) = 1 := by decide +kernel
theorem sh_fore1 : foreA shA [1] = 0 := by decide +kernel
theorem sh_back1 : backA shA [1] = 3 := by decide +kernel

set_option maxRecDepth 100000 in
set_option maxHeartbeats 4000000 in
theorem shown_c (w : World) (hT : Tab w) : Calls Tryd.prog 13 #[] w fun e w' => e = .returned (.bool true) ∧ Below w.heap.size w w' := by
 have hTp := hT.pos
 have HT := Lib.hid fun (W : World) (bW : Below w.heap.size w W) => hT.call bW hTp
 clear hT
 go_enter Tryd.func13, Tryd.ntmps13
 go_wp2_with fail
 refine (font_c 3 (some ⟨w.heap.size + 1 + 1 + 1 + 1 + 1, 0, none⟩) 2 2 shR (shW1 w) (sh1_rd w).1 (hd_le (by omega)) (by omega)).mono ?_
 rintro e w2 ⟨f, rfl, hF, hb2⟩
 have bw2 := below_call (sh1_rd w).2 hb2
 clear hb2
 have bF : Below w2.heap.size w2 (w2.alloc (.cells #[.int .i64 f.u0, .slice f.ga f.gn f.gc, .slice f.ca f.cn f.cc, .slice f.la f.ln f.lc, .slice f.a4 f.n4 f.c4, .slice f.a5 f.n5 f.c5, .slice f.a6 f.n6 f.c6, .slice f.a7 f.n7 f.c7, .slice f.a8 f.n8 f.c8] 33)) := lit_call bw2 _
 have kF := Bk.new w2 33 #[.int .i64 f.u0, .slice f.ga f.gn f.gc, .slice f.ca f.cn f.cc, .slice f.la f.ln f.lc, .slice f.a4 f.n4 f.c4, .slice f.a5 f.n5 f.c5, .slice f.a6 f.n6 f.c6, .slice f.a7 f.n7 f.c7, .slice f.a8 f.n8 f.c8]
 have hF3 := hF.call bF
 have bw3 := below_call bw2 bF
 obtain ⟨gF, hgF⟩ : ∃ g, w2.heap.size = g := ⟨_, rfl⟩
 rw [hgF] at kF
 have HB := Lib.hid (build_c f (fontF 3 shR) 0 _ hF3 (sh_hs 0))
 unfold FV.cells at *
 have f0 := box_cells kF 0 rfl
 have f1 := box_cells kF 1 rfl
 have f2 := box_cells kF 2 rfl
 have f3 := box_cells kF 3 rfl
 have f4 := box_cells kF 4 rfl
 have f5 := box_cells kF 5 rfl
 have f6 := box_cells kF 6 rfl
 have f7 := box_cells kF 7 rfl
 have f8 := box_cells kF 8 rfl
 clear hF bF bw2
 go_wp2_with fail
 refine HB.out.mono ?_
 rintro e w4 ⟨hb4, hm4⟩
 rw [sh_build0] at hm4
 obtain ⟨v, rfl, hA4⟩ := hm4
 clear HB f0 f1 f2 f3 f4 f5 f6 f7 f8
 have kF4 := kF.below hb4 kF.lt
 have hF4 := hF3.call hb4
 have bw4 := below_call bw3 hb4
 have bA := lit_call bw4 (.cells #[.slice v.ca v.cn v.cc, .slice v.fa v.fn v.fc, .slice v.ba v.bn v.bc, .slice v.ea v.en v.ec, .slice v.ga v.gn v.gc] 38)
 have kA := Bk.new w4 38 #[.slice v.ca v.cn v.cc, .slice v.fa v.fn v.fc, .slice v.ba v.bn v.bc, .slice v.ea v.en v.ec, .slice v.ga v.gn v.gc]
 have kF5 := kF4.below bA kF4.lt
 have hF5 := hF4.call bA
 have hA5 := hA4.call bA
 have bw5 := below_call bw4 bA
 obtain ⟨gA, hgA⟩ : ∃ g, w4.heap.size = g := ⟨_, rfl⟩
 rw [hgA] at kA
 have HB := Lib.hid (build_c f (fontF 3 shR) 1 _ hF5 (sh_hs 1))
 unfold AV.cells at *
 unfold FV.cells at *
 have f0 := box_cells kF5 0 rfl
 have f1 := box_cells kF5 1 rfl
 have f2 := box_cells kF5 2 rfl
 have f3 := box_cells kF5 3 rfl
 have f4 := box_cells kF5 4 rfl
 have f5 := box_cells kF5 5 rfl
 have f6 := box_cells kF5 6 rfl
 have f7 := box_cells kF5 7 rfl
 have f8 := box_cells kF5 8 rfl
 clear hgF kF kF4 hF3 hF4 hA4 hb4 bA bw3 bw4
 go_wp2_with fail
 refine HB.out.mono ?_
 rintro e w6 ⟨hb6, hm6⟩
 rw [sh_build1] at hm6
 subst hm6
 clear HB f0 f1 f2 f3 f4 f5 f6 f7 f8
 have kF6 := kF5.below hb6 kF5.lt
 have kA6 := kA.below hb6 kA.lt
 have hF6 := hF5.call hb6
 have hA6 := hA5.call hb6
 have bw6 := below_call bw5 hb6
 have b7 := lit_call bw6 (.cells #[.slice none 0 0, .slice none 0 0, .slice none 0 0, .slice none 0 0, .slice none 0 0] 38)
 have kF7 := kF6.below b7 kF6.lt
 have kA7 := kA6.below b7 kA6.lt
 have hF7 := hF6.call b7
 have hA7 := hA6.call b7
 have bw7 := below_call bw6 b7
 clear kF5 kA hF5 hA5 hb6 bw5 kF6 kA6 hF6 hA6 bw6 b7
 go_upto_region 4 with fail
 clear hgA
 generalize w6.alloc (.cells #[.slice none 0 0, .slice none 0 0, .slice none 0 0, .slice none 0 0, .slice none 0 0] 38) = w7 at *
 go_upto_region 5 with fail
 change Code.wp Tryd.prog _ _ _ ((shW2 w7).alloc (.cells (shV w7.heap.size).cells 38))
 have b8 := (sh2_rd w7).2
 have hU8 := (sh2_rd w7).1
 have kF8 := kF7.below b8 kF7.lt
 have kA8 := kA7.below b8 kA7.lt
 have hF8 := hF7.call b8
 have hA8 := hA7.call b8
 have bw8 := below_call bw7 b8
 have b9 := lit_call bw8 (.cells (shV w7.heap.size).cells 38)
 have kU := Bk.new (shW2 w7) 38 (shV w7.heap.size).cells
 have kF9 := kF8.below b9 kF8.lt
 have kA9 := kA8.below b9 kA8.lt
 have hF9 := hF8.call b9
 have hA9 := hA8.call b9
 have hU9 := hU8.call b9
 have bw9 := below_call bw8 b9
 have v0 := box_cells kA9 0 rfl
 have u0 := box_cells kU 0 rfl
 have v1 := box_cells kA9 1 rfl
 have u1 := box_cells kU 1 rfl
 have v2 := box_cells kA9 2 rfl
 have u2 := box_cells kU 2 rfl
 have v3 := box_cells kA9 3 rfl
 have u3 := box_cells kU 3 rfl
 have v4 := box_cells kA9 4 rfl
 have u4 := box_cells kU 4 rfl
 have HSM := Lib.hid (sameAuto_c v (shV w7.heap.size) shA _ hA9 hU9 ⟨by decide, by decide, by decide⟩)
 have hsz : (shW2 w7).heap.size = w7.heap.size + 1 + 1 + 1 + 1 + 1 + 1 + 1 + 1 + 1 := by unfold shW2 shL2; simp
 rw [hsz] at kU u0 u1 u2 u3 u4
 clear b9
 generalize (shW2 w7).alloc (.cells (shV w7.heap.size).cells 38) = W9 at *
 unfold shV at HSM u0 u1 u2 u3 u4
 unfold AV.cells at *
 clear kF7 kA7 hF7 hA7 bw7 b8 hU8 kF8 kA8 hF8 hA8 bw8
 go_wp2_with fail
 refine HSM.out.mono ?_
 rintro e w10 ⟨rfl, hb10⟩
 have kF10 := kF9.below hb10 kF9.lt
 have kA10 := kA9.below hb10 kA9.lt
 have hF10 := hF9.call hb10
 have hA10 := hA9.call hb10
 have bw10 := below_call bw9 hb10
 clear hU9 kU v0 v1 v2 v3 v4 u0 u1 u2 u3 u4 HSM kF9 kA9 hF9 hA9 hb10 bw9
 have v0 := box_cells kA10 0 rfl
 have v1 := box_cells kA10 1 rfl
 have v2 := box_cells kA10 2 rfl
 have v3 := box_cells kA10 3 rfl
 have v4 := box_cells kA10 4 rfl
 have b11 : Below w10.heap.size w10 (w10.alloc (.cells #[.int .i64 0, .int .i64 1] 3)) := lit_call bw10 _
 have rl11 := rd_bk (n := 2) (Bk.new w10 3 #[.int .i64 0, .int .i64 1]) [0, 1] rfl rfl
 have kF11 := kF10.below b11 kF10.lt
 have kA11 := kA10.below b11 kA10.lt
 have hF11 := hF10.call b11
 have hA11 := hA10.call b11
 have bw11 := below_call bw10 b11
 have HC := Lib.hid ((First_c v shA none _ 0 0 2 2 [] [0, 1] _ hA11 SlE.nil rl11 (by omega) (by omega) (HT.out _ bw11)).mono fun e w' (h : e = _ ∧ _) => (show e = .returned (.int .i64 0) ∧ Below _ _ w' from ⟨h.1.trans (by rw [sh_first1]), h.2⟩))
 unfold AV.cells at HC
 clear kF10 kA10 hF10 hA10 bw10
 go_wp2_with fail
 refine HC.out.mono ?_
 rintro e w12 ⟨rfl, hb12⟩
 have kF12 := kF11.below hb12 kF11.lt
 have kA12 := kA11.below hb12 kA11.lt
 have hF12 := hF11.call hb12
 have hA12 := hA11.call hb12
 have bw12 := below_call bw11 hb12
 clear HC kF11 kA11 hF11 hA11 hb12 bw11
 clear v0 v1 v2 v3 v4
 have v0 := box_cells kA12 0 rfl
 have v1 := box_cells kA12 1 rfl
 have v2 := box_cells kA12 2 rfl
 have v3 := box_cells kA12 3 rfl
 have v4 := box_cells kA12 4 rfl
 have b13 : Below w12.heap.size w12 (w12.alloc (.cells #[.int .i64 0, .int .i64 2] 3)) := lit_call bw12 _
 have rl13 := rd_bk (n := 2) (Bk.new w12 3 #[.int .i64 0, .int .i64 2]) [0, 2] rfl rfl
 have kF13 := kF12.below b13 kF12.lt
 have kA13 := kA12.below b13 kA12.lt
 have hF13 := hF12.call b13
 have hA13 := hA12.call b13
 have bw13 := below_call bw12 b13
 have HC := Lib.hid ((First_c v shA none _ 0 0 2 2 [] [0, 2] _ hA13 SlE.nil rl13 (by omega) (by omega) (HT.out _ bw13)).mono fun e w' (h : e = _ ∧ _) => (show e = .returned (.int .i64 1) ∧ Below _ _ w' from ⟨h.1.trans (by rw [sh_first2]), h.2⟩))
 unfold AV.cells at HC
 clear kF12 kA12 hF12 hA12 bw12
 go_wp2_with fail
 refine HC.out.mono ?_
 rintro e w14 ⟨rfl, hb14⟩
 have kF14 := kF13.below hb14 kF13.lt
 have kA14 := kA13.below hb14 kA13.lt
 have hF14 := hF13.call hb14
 have hA14 := hA13.call hb14
 have bw14 := below_call bw13 hb14
 clear HC kF13 kA13 hF13 hA13 hb14 bw13
 clear v0 v1 v2 v3 v4
 have v0 := box_cells kA14 0 rfl
 have v1 := box_cells kA14 1 rfl
 have v2 := box_cells kA14 2 rfl
 have v3 := box_cells kA14 3 rfl
 have v4 := box_cells kA14 4 rfl
 have HD := Lib.hid ((does_c f (fontF 3 shR) 0 v shA w14 hF14 (sh_hs 0) hA14 (by decide) (by decide)).mono fun e w' (h : Below _ _ w' ∧ ∃ b : Bool, e = .returned (.bool b) ∧ (b = true ↔ DoesF (fontF 3 shR) 0 shA)) => (show e = .returned (.bool true) ∧ Below w14.heap.size w14 w' from ⟨by obtain ⟨_, b, h1, h2⟩ := h; rw [h1, h2.2 sh_does], h.1⟩))
 unfold AV.cells FV.cells at HD
 have f0 := box_cells kF14 0 rfl
 have f1 := box_cells kF14 1 rfl
 have f2 := box_cells kF14 2 rfl
 have f3 := box_cells kF14 3 rfl
 have f4 := box_cells kF14 4 rfl
 have f5 := box_cells kF14 5 rfl
 have f6 := box_cells kF14 6 rfl
 have f7 := box_cells kF14 7 rfl
 have f8 := box_cells kF14 8 rfl
 go_wp2_with fail
 refine HD.out.mono ?_
 rintro e w15 ⟨rfl, hb15⟩
 have kF15 := kF14.below hb15 kF14.lt
 have kA15 := kA14.below hb15 kA14.lt
 have hF15 := hF14.call hb15
 have hA15 := hA14.call hb15
 have bw15 := below_call bw14 hb15
 clear HD kF14 kA14 hF14 hA14 hb15 bw14
 clear v0 v1 v2 v3 v4 f0 f1 f2 f3 f4 f5 f6 f7 f8
 have v0 := box_cells kA15 0 rfl
 have v1 := box_cells kA15 1 rfl
 have v2 := box_cells kA15 2 rfl
 have v3 := box_cells kA15 3 rfl
 have v4 := box_cells kA15 4 rfl
 have b16 : Below w15.heap.size w15 (w15.alloc (.cells #[.int .i64 1] 3)) := lit_call bw15 _
 have rl16 := rd_bk (n := 1) (Bk.new w15 3 #[.int .i64 1]) [1] rfl rfl
 have kF16 := kF15.below b16 kF15.lt
 have kA16 := kA15.below b16 kA15.lt
 have hF16 := hF15.call b16
 have hA16 := hA15.call b16
 have bw16 := below_call bw15 b16
 have HC := Lib.hid ((Fore_c v shA _ 1 1 [1] _ hA16 rl16 (by omega)).mono fun e w' (h : e = _ ∧ _) => (show e = .returned (.int .u64 0) ∧ Below _ _ w' from ⟨h.1.trans (by rw [sh_fore1]; rfl), h.2⟩))
 unfold AV.cells at HC
 clear kF15 kA15 hF15 hA15 bw15
 go_wp2_with fail
 refine HC.out.mono ?_
 rintro e w17 ⟨rfl, hb17⟩
 have kF17 := kF16.below hb17 kF16.lt
 have kA17 := kA16.below hb17 kA16.lt
 have hF17 := hF16.call hb17
 have hA17 := hA16.call hb17
 have bw17 := below_call bw16 hb17
 clear HC kF16 kA16 hF16 hA16 hb17 bw16
 clear v0 v1 v2 v3 v4
 have v0 := box_cells kA17 0 rfl
 have v1 := box_cells kA17 1 rfl
 have v2 := box_cells kA17 2 rfl
 have v3 := box_cells kA17 3 rfl
 have v4 := box_cells kA17 4 rfl
 have b18 : Below w17.heap.size w17 (w17.alloc (.cells #[.int .i64 1] 3)) := lit_call bw17 _
 have rl18 := rd_bk (n := 1) (Bk.new w17 3 #[.int .i64 1]) [1] rfl rfl
 have kF18 := kF17.below b18 kF17.lt
 have kA18 := kA17.below b18 kA17.lt
 have hF18 := hF17.call b18
 have hA18 := hA17.call b18
 have bw18 := below_call bw17 b18
 have HC := Lib.hid ((Back_c v shA _ 1 1 [1] _ hA18 rl18 (by omega)).mono fun e w' (h : e = _ ∧ _) => (show e = .returned (.int .u64 3) ∧ Below _ _ w' from ⟨h.1.trans (by rw [sh_back1]; rfl), h.2⟩))
 unfold AV.cells at HC
 clear kF17 kA17 hF17 hA17 bw17
 go_wp2_with fail
 refine HC.out.mono ?_
 rintro e w19 ⟨rfl, hb19⟩
 have kF19 := kF18.below hb19 kF18.lt
 have kA19 := kA18.below hb19 kA18.lt
 have hF19 := hF18.call hb19
 have hA19 := hA18.call hb19
 have bw19 := below_call bw18 hb19
 clear HC kF18 kA18 hF18 hA18 hb19 bw18
 clear v0 v1 v2 v3 v4
 go_wp2
 go_ret
 exact ⟨rfl, bw19⟩


end Go.Proofs.YtgcmedkaadagmaaDoor
