/- Walks: the document's find; words: its states in the making. -/
import Derived.Test.YtgcmedkaadagmaaDoorTk
import Derived.Test.YtgcmedkaadagmaaDoorX0
import Derived.Test.YtgcmedkaadagmaaDoorL2
namespace Go.Proofs.YtgcmedkaadagmaaDoor
open Go.RowKit Go.Shelf Go.Maps

theorem same_g (A B : Option Addr) (n m c d : Nat) (xs ys : List Int) (w : World) (hA : Rd w (lo w.heap.size) A n xs) (hB : Rd w (lo w.heap.size) B m ys) (hn : n ≤ 1000000000) (hm : m ≤ 1000000000) :
  Calls Tryd.prog 51 #[.slice A n c, .slice B m d] w fun e w' => e = .returned (.bool (decide (xs = ys))) ∧ Below w.heap.size w w' :=
 (S6.same_c A B n m c d xs ys w (s6rd hA) (s6rd hB) hn hm).mono fun _ _ ⟨he, _, hk⟩ => ⟨he, by rw [hk]; exact below_drewN (Below.refl _ _) _⟩
section
variable {α : Type} [DecidableEq α]
def findG (ss : List α) (s : α) : Option Nat := ss.idxOf? s
theorem findG_at {ss : List α} {s : α} {i : Nat} (h : ss[i]? = some s) (hn : ∀ j, j < i → ss[j]? ≠ some s) : findG ss s = some i := by
 obtain ⟨hi, e⟩ := List.getElem?_eq_some_iff.1 h
 unfold findG
 rw [List.idxOf?, List.findIdx?_eq_some_iff_getElem]
 refine ⟨hi, by simp [e], fun j hj => ?_⟩
 have h1 := hn j hj
 rw [List.getElem?_eq_getElem (by omega)] at h1
 simp only [beq_iff_eq]
 exact fun e2 => h1 (by rw [e2])
theorem findG_none {ss : List α} {s : α} (hn : ∀ j, j < ss.length → ss[j]? ≠ some s) : findG ss s = none := by
 unfold findG
 rw [List.idxOf?_eq_none_iff]
 intro hm
 obtain ⟨j, hj⟩ := List.mem_iff_getElem?.1 hm
 exact hn j (List.getElem?_eq_some_iff.1 hj).1 hj
theorem findG_cases (ss : List α) (s : α) : (∃ i : Nat, i < ss.length ∧ findG ss s = some i ∧ meetL ss s = (i, ss)) ∨ (findG ss s = none ∧ meetL ss s = (ss.length, ss ++ [s])) := by
 unfold findG meetL
 cases h : ss.idxOf? s with
 | none => exact .inr ⟨rfl, rfl⟩
 | some i =>
  rw [List.idxOf?, List.findIdx?_eq_some_iff_getElem] at h
  exact .inl ⟨i, h.1, rfl, rfl⟩
end
def findL (ss : List (Nat × List Nat)) (s : Nat × List Nat) : Int := match findG ss s with | some i => (i : Int) | none => -1
theorem findL_at {ss : List (Nat × List Nat)} {s : Nat × List Nat} {i : Nat} (h : ss[i]? = some s) (hn : ∀ j, j < i → ss[j]? ≠ some s) : findL ss s = (i : Int) := by
 unfold findL; rw [findG_at h hn]
theorem findL_none {ss : List (Nat × List Nat)} {s : Nat × List Nat} (hn : ∀ j, j < ss.length → ss[j]? ≠ some s) : findL ss s = -1 := by
 unfold findL; rw [findG_none hn]
theorem findL_cases (ss : List (Nat × List Nat)) (s : Nat × List Nat) : (∃ i : Nat, i < ss.length ∧ findL ss s = (i : Int) ∧ meetL ss s = (i, ss)) ∨ (findL ss s = -1 ∧ meetL ss s = (ss.length, ss ++ [s])) := by
 rcases findG_cases ss s with ⟨i, h1, h2, h3⟩ | ⟨h2, h3⟩
 ·exact .inl ⟨i, h1, by unfold findL; rw [h2], h3⟩
 ·exact .inr ⟨by unfold findL; rw [h2], h3⟩
theorem MkG.push' {α : Type} {e k : Nat} {E : World → (Nat → Prop) → List Value → α → Prop} {w W W2 : World} {D : Nat → Prop} {A : Option Addr} {n c : Nat} {css : List (List Value)} {xs : List α} (hE : EMono k E) (h : MkG e k E w W D A n c css xs) (hb : Below W.heap.size W W2) {D2 : Nat → Prop} (hD : ∀ b, D2 b → w.heap.size ≤ b ∧ b < W2.heap.size ∧ A.map (·.block) ≠ some b) {cs : List Value} {r : α} (hr : E W2 D2 cs r) {o : Obj} {W4 : World} {A' : Option Addr} {c' : Nat}
  (ho : Ow e k W4 w.heap.size A' (n + 1) c' (css.flatten ++ cs)) (hg : (W2.alloc o).grownBy W4 (A.map (·.block))) (hat : A'.map (·.block) = A.map (·.block) ∨ A'.map (·.block) = some (W2.alloc o).heap.size) :
  MkG e k E w W4 (fun b => D b ∨ D2 b) A' (n + 1) c' (css ++ [cs]) (xs ++ [r]) := by
 have s0 := h.bl.size
 have s1 := hb.size
 have s4 := hg.size
 rw [World.size_alloc] at s4
 have al : ∀ b, A.map (·.block) = some b → b < W.heap.size := fun b e => (h.ow.blk b e).2.1
 have kk : ∀ b, b < W2.heap.size → A.map (·.block) ≠ some b → W4.heap[b]? = W2.heap[b]? := fun b h1 h2 => by
  rw [hg.block b (by rw [World.size_alloc]; omega) (fun e => h2 e.symm), Below.heap_alloc W2 o b h1]
 have k1 : Kept D W W4 := fun b hd => (kk b (by have := (h.dl b hd).2.1; omega) (h.dl b hd).2.2).trans (hb.block b (h.dl b hd).2.1)
 have k2 : Kept D2 W2 W4 := fun b hd => kk b (hD b hd).2.1 (hD b hd).2.2
 have hrl := hE.len hr
 refine ⟨by rw [List.flatten_append]; simpa using ho, (h.rw.mono fun cs x hx => hE.mono hx (fun b hb => .inl hb) k1).app (RowOf.one (hE.mono hr (fun b hb => .inr hb) k2) hrl), fun b hd => ?_, ?_⟩
 ·have h3 : w.heap.size ≤ b ∧ b < W2.heap.size ∧ A.map (·.block) ≠ some b := by
   rcases hd with hd | hd
   ·exact ⟨(h.dl b hd).1, by have := (h.dl b hd).2.1; omega, (h.dl b hd).2.2⟩
   ·exact hD b hd
  refine ⟨h3.1, by omega, fun e => ?_⟩
  rcases hat with e2 | e2
  ·exact h3.2.2 (by rw [← e2]; exact e)
  ·rw [e2, World.size_alloc] at e; injection e with e; omega
 ·exact ((h.bl.trans (hb.mono s0)).trans (((Below.refl W2.heap.size W2).alloc (Nat.le_refl _) o).mono (by omega))).grown hg (by rw [World.size_alloc]; omega) (fun b e => (h.ow.blk b e).1)

/-- States, rows, ends and a row in the making. -/
structure DSv where
 Da : Nat → Prop
 Aa : Option Addr
 na : Nat
 ca : Nat
 csa : List (List Value)
 met : List (Nat × List Nat)
 Dr : Nat → Prop
 Ar : Option Addr
 nr : Nat
 cr : Nat
 csr : List (List Value)
 tab : List (List Int)
 Ae : Option Addr
 ne : Nat
 ce : Nat
 ends : List Nat
 Ax : Option Addr
 nx : Nat
 cx : Nat
 xs : List Int
structure DSt (w W : World) (L : Nat) (LC : Array Value) (s : DSv) : Prop where
 ma : MkG 183 2 ESt w W s.Da s.Aa s.na s.ca s.csa s.met
 mr : MkG 23 1 ERow w W s.Dr s.Ar s.nr s.cr s.csr s.tab
 me : Ow 50 1 W w.heap.size s.Ae s.ne s.ce (uc s.ends)
 mx : Ow 3 1 W w.heap.size s.Ax s.nx s.cx (ic s.xs)
 sa : ∀ b, s.Da b → s.Ar.map (·.block) ≠ some b ∧ s.Ae.map (·.block) ≠ some b ∧ s.Ax.map (·.block) ≠ some b
 sr : ∀ b, s.Dr b → s.Aa.map (·.block) ≠ some b ∧ s.Ae.map (·.block) ≠ some b ∧ s.Ax.map (·.block) ≠ some b
 kL : Bk W L 55 LC
theorem DSt.bl {w W : World} {L : Nat} {LC : Array Value} {s : DSv} (h : DSt w W L LC s) : Below w.heap.size w W := h.ma.bl
theorem DSt.call {w W W2 : World} {L : Nat} {LC : Array Value} {s : DSv} (h : DSt w W L LC s) (hb : Below W.heap.size W W2) : DSt w W2 L LC s :=
 ⟨h.ma.call em_st hb, h.mr.call em_row hb, h.me.call hb, h.mx.call hb, h.sa, h.sr, h.kL.below hb h.kL.lt⟩
theorem DSt.na {w W : World} {L : Nat} {LC : Array Value} {s : DSv} (h : DSt w W L LC s) : s.na = s.met.length := by
 have h1 := h.ma.ow.len
 have h2 := h.ma.rw.1
 rw [flat_len h.ma.rw.2.1] at h1; omega
theorem DSt.nr {w W : World} {L : Nat} {LC : Array Value} {s : DSv} (h : DSt w W L LC s) : s.nr = s.tab.length := by
 have h1 := h.mr.ow.len
 have h2 := h.mr.rw.1
 rw [flat_len h.mr.rw.2.1] at h1; omega
theorem DSt.ne {w W : World} {L : Nat} {LC : Array Value} {s : DSv} (h : DSt w W L LC s) : s.ne = s.ends.length := by
 have h1 := h.me.len
 rw [uc_len] at h1; omega
theorem DSt.nx {w W : World} {L : Nat} {LC : Array Value} {s : DSv} (h : DSt w W L LC s) : s.nx = s.xs.length := by
 have h1 := h.mx.len
 rw [ic_len] at h1; omega
/-- A new row. -/
theorem DSt.newX {w W : World} {L : Nat} {LC : Array Value} {s : DSv} (h : DSt w W L LC s) : DSt w (W.alloc (.cells #[] 3)) L LC { s with Ax := some ⟨W.heap.size, 0, none⟩, nx := 0, cx := 0, xs := [] } := by
 have hb := below_lit W W (Below.refl _ _) (.cells #[] 3)
 have h2 := h.call hb
 refine ⟨h2.ma, h2.mr, h2.me, Ow.empty 3 1 W _ h.bl.size, fun b hd => ⟨(h.sa b hd).1, (h.sa b hd).2.1, fun e => ?_⟩, fun b hd => ⟨(h.sr b hd).1, (h.sr b hd).2.1, fun e => ?_⟩, h2.kL⟩
 ·have := (h.ma.dl b hd).2.1
  injection e with e
  dsimp only at e; omega
 ·have := (h.mr.dl b hd).2.1
  injection e with e
  dsimp only at e; omega
section
variable {w W W2 W4 : World} {L : Nat} {LC : Array Value} {s : DSv}
theorem own_ne {e e' k k' : Nat} {W : World} {base base' n n' c c' : Nat} {A B : Option Addr} {cs ds : List Value} (h : Ow e k W base A n c cs) (h' : Ow e' k' W base' B n' c' ds) (hne : e ≠ e') : ∀ b, A.map (·.block) = some b → B.map (·.block) ≠ some b := fun b ea eb => h.ne_types h' hne b (h.blk b ea).2.2.1 eb
theorem DSt.lit (h : DSt w W L LC s) (hb : Below W.heap.size W W2) (o : Obj) : DSt w (W2.alloc o) L LC s := h.call (below_lit _ _ hb o)
theorem at_new {A A' : Option Addr} {W : World} {o : Obj} (hat : A'.map (·.block) = A.map (·.block) ∨ A'.map (·.block) = some (W.alloc o).heap.size) {b : Nat} (h1 : A.map (·.block) ≠ some b) (h2 : b < W.heap.size) : A'.map (·.block) ≠ some b := fun e => by
 rcases hat with h | h
 ·exact h1 (by rw [← h]; exact e)
 ·rw [h, World.size_alloc] at e
  injection e with e; omega
/-- One state more. -/
theorem DSt.pushA (h : DSt w W L LC s) (hb : Below W.heap.size W W2) {D2 : Nat → Prop} (hD : ∀ b, D2 b → W.heap.size ≤ b ∧ b < W2.heap.size) {cs : List Value} {q : Nat × List Nat} (hr : ESt W2 D2 cs q) {o : Obj} {A' : Option Addr} {c' : Nat} (ho : Ow 183 2 W4 w.heap.size A' (s.na + 1) c' (s.csa.flatten ++ cs)) (hg : (W2.alloc o).grownBy W4 (s.Aa.map (·.block))) (hb4 : Below w.heap.size (W2.alloc o) W4) (hat : A'.map (·.block) = s.Aa.map (·.block) ∨ A'.map (·.block) = some (W2.alloc o).heap.size) :
  DSt w W4 L LC { s with Da := fun b => s.Da b ∨ D2 b, Aa := A', na := s.na + 1, ca := c', csa := s.csa ++ [cs], met := s.met ++ [q] } := by
 have h2 := h.lit hb o
 have sz := hb.size
 refine ⟨h.ma.push em_st hb hD hr ho hg hb4 hat, h2.mr.other em_row hg (fun b e => ⟨own_ne h2.ma.ow h2.mr.ow (by decide) b e, fun hd => (h.sr b hd).1 e, (h.ma.ow.blk b e).1⟩), h2.me.grown hg (fun b e1 e2 => own_ne h2.ma.ow h2.me (by decide) b e2 (by rw [e1]; rfl)), h2.mx.grown hg (fun b e1 e2 => own_ne h2.ma.ow h2.mx (by decide) b e2 (by rw [e1]; rfl)), fun b hd => ?_, fun b hd => ⟨at_new hat (h.sr b hd).1 (by have := (h.mr.dl b hd).2.1; omega), (h.sr b hd).2⟩, h2.kL.grown hg (h2.kL.ne_own (by decide) h2.ma.ow)⟩
 rcases hd with hd | hd
 ·exact h.sa b hd
 ·have h1 := (hD b hd).1
  exact ⟨fun e => by have := (h.mr.ow.blk b e).2.1; omega, fun e => by have := (h.me.blk b e).2.1; omega, fun e => by have := (h.mx.blk b e).2.1; omega⟩
/-- One number more. -/
theorem DSt.pushX (h : DSt w W L LC s) (hb : Below W.heap.size W W2) {x : Int} {o : Obj} {A' : Option Addr} {c' : Nat} (ho : Ow 3 1 W4 w.heap.size A' (s.nx + 1) c' (ic s.xs ++ [.int .i64 x])) (hg : (W2.alloc o).grownBy W4 (s.Ax.map (·.block))) (hat : A'.map (·.block) = s.Ax.map (·.block) ∨ A'.map (·.block) = some (W2.alloc o).heap.size) :
  DSt w W4 L LC { s with Ax := A', nx := s.nx + 1, cx := c', xs := s.xs ++ [x] } := by
 have h2 := h.lit hb o
 have sz := hb.size
 exact ⟨h2.ma.other em_st hg (fun b e => ⟨own_ne h2.mx h2.ma.ow (by decide) b e, fun hd => (h.sa b hd).2.2 e, (h.mx.blk b e).1⟩), h2.mr.other em_row hg (fun b e => ⟨own_ne h2.mx h2.mr.ow (by decide) b e, fun hd => (h.sr b hd).2.2 e, (h.mx.blk b e).1⟩), h2.me.grown hg (fun b e1 e2 => own_ne h2.mx h2.me (by decide) b e2 (by rw [e1]; rfl)), by rw [ic_app]; exact ho, fun b hd => ⟨(h.sa b hd).1, (h.sa b hd).2.1, at_new hat (h.sa b hd).2.2 (by have := (h.ma.dl b hd).2.1; omega)⟩, fun b hd => ⟨(h.sr b hd).1, (h.sr b hd).2.1, at_new hat (h.sr b hd).2.2 (by have := (h.mr.dl b hd).2.1; omega)⟩, h2.kL.grown hg (h2.kL.ne_own (by decide) h2.mx)⟩
/-- The row is laid to the rows. -/
theorem DSt.pushR (h : DSt w W L LC s) (hb : Below W.heap.size W W2) {o : Obj} {A' : Option Addr} {c' : Nat} (ho : Ow 23 1 W4 w.heap.size A' (s.nr + 1) c' (s.csr.flatten ++ [.slice s.Ax s.nx s.cx])) (hg : (W2.alloc o).grownBy W4 (s.Ar.map (·.block))) (hat : A'.map (·.block) = s.Ar.map (·.block) ∨ A'.map (·.block) = some (W2.alloc o).heap.size) :
  DSt w W4 L LC { s with Dr := fun b => s.Dr b ∨ s.Ax.map (·.block) = some b, Ar := A', nr := s.nr + 1, cr := c', csr := s.csr ++ [[.slice s.Ax s.nx s.cx]], tab := s.tab ++ [s.xs], Ax := none, nx := 0, cx := 0, xs := [] } := by
 have h2 := h.lit hb o
 have sz := hb.size
 have hx2 := h.mx.call hb
 have hr : ERow W2 (fun b => s.Ax.map (·.block) = some b) [.slice s.Ax s.nx s.cx] s.xs := ⟨s.Ax, s.nx, s.cx, rfl, rd_block hx2 (fun b e => e), h.mx.cap⟩
 refine ⟨h2.ma.other em_st hg (fun b e => ⟨own_ne h2.mr.ow h2.ma.ow (by decide) b e, fun hd => (h.sa b hd).1 e, (h.mr.ow.blk b e).1⟩), h.mr.push' em_row hb (fun b e => ⟨(h.mx.blk b e).1, by have := (h.mx.blk b e).2.1; omega, own_ne h.mx h.mr.ow (by decide) b e⟩) hr ho hg hat, h2.me.grown hg (fun b e1 e2 => own_ne h2.mr.ow h2.me (by decide) b e2 (by rw [e1]; rfl)), Ow.nil _ _ _ _, fun b hd => ⟨at_new hat (h.sa b hd).1 (by have := (h.ma.dl b hd).2.1; omega), (h.sa b hd).2.1, (by intro e; cases e)⟩, fun b hd => ?_, h2.kL.grown hg (h2.kL.ne_own (by decide) h2.mr.ow)⟩
 rcases hd with hd | hd
 ·exact ⟨(h.sr b hd).1, (h.sr b hd).2.1, (by intro e; cases e)⟩
 ·exact ⟨own_ne h.mx h.ma.ow (by decide) b hd, own_ne h.mx h.me (by decide) b hd, (by intro e; cases e)⟩
/-- One number of bits more. -/
theorem DSt.pushE (h : DSt w W L LC s) (hb : Below W.heap.size W W2) {x : Nat} {o : Obj} {A' : Option Addr} {c' : Nat} (ho : Ow 50 1 W4 w.heap.size A' (s.ne + 1) c' (uc s.ends ++ [.int .u64 (x : Int)])) (hg : (W2.alloc o).grownBy W4 (s.Ae.map (·.block))) (hat : A'.map (·.block) = s.Ae.map (·.block) ∨ A'.map (·.block) = some (W2.alloc o).heap.size) :
  DSt w W4 L LC { s with Ae := A', ne := s.ne + 1, ce := c', ends := s.ends ++ [x] } := by
 have h2 := h.lit hb o
 have sz := hb.size
 exact ⟨h2.ma.other em_st hg (fun b e => ⟨own_ne h2.me h2.ma.ow (by decide) b e, fun hd => (h.sa b hd).2.1 e, (h.me.blk b e).1⟩), h2.mr.other em_row hg (fun b e => ⟨own_ne h2.me h2.mr.ow (by decide) b e, fun hd => (h.sr b hd).2.1 e, (h.me.blk b e).1⟩), by rw [uc_app]; exact ho, h2.mx.grown hg (fun b e1 e2 => own_ne h2.me h2.mx (by decide) b e2 (by rw [e1]; rfl)), fun b hd => ⟨(h.sa b hd).1, at_new hat (h.sa b hd).2.1 (by have := (h.ma.dl b hd).2.1; omega), (h.sa b hd).2.2⟩, fun b hd => ⟨(h.sr b hd).1, at_new hat (h.sr b hd).2.1 (by have := (h.mr.dl b hd).2.1; omega), (h.sr b hd).2.2⟩, h2.kL.grown hg (h2.kL.ne_own (by decide) h2.me)⟩
end

set_option maxRecDepth 100000 in
set_option maxHeartbeats 2000000 in
theorem dfind_c (A : Option Addr) (n c : Nat) (ss : List (Nat × List Nat)) (sv : List Value) (s : Nat × List Nat) (w : World) (hA : RdS w (lo w.heap.size) A n ss) (hd : Hd n c) (hS : ESt w (lo w.heap.size) sv s) (hl : ∀ q ∈ ss, q.2.length ≤ 1000) (hsl : s.2.length ≤ 1000) :
  Calls Tryd.prog 77 #[.slice A n c, .agg sv.toArray] w fun e w' => e = .returned (.int .i64 (findL ss s)) ∧ Below w.heap.size w w' := by
 obtain ⟨sA, sn, sc, rfl, hS0, hsd⟩ := hS
 obtain ⟨s1, s2⟩ := s
 have hd1 := hd.1
 have hd2 := hd.2
 have LN := Lib.hid hA.len
 have HL := Lib.hid hl
 have hsn : sn ≤ 1000 := by have h1 := hS0.len; rw [gls_len] at h1; dsimp only at h1 hsl; omega
 have b3 : Below w.heap.size w (w.alloc (.cells #[.int .i64 (s1 : Int), .slice sA sn sc] 183)) := below_lit _ _ (Below.refl _ _) _
 have k3 := Bk.new w 183 #[.int .i64 (s1 : Int), .slice sA sn sc]
 have HA := Lib.hid hA
 have HS0 := Lib.hid hS0
 have H0 := Lib.hid (And.intro b3 k3)
 clear hA hd hS0 hsd hl hsl b3 k3
 go_enter Tryd.func77, Tryd.ntmps77
 go_upto_region 2 with fail
 obtain ⟨b0, k0⟩ := H0.out
 clear H0
 generalize w.alloc (.cells #[.int .i64 (s1 : Int), .slice sA sn sc] 183) = W4 at *
 obtain ⟨g, hg⟩ : ∃ g, w.heap.size = g := ⟨_, rfl⟩
 rw [hg] at k0 ⊢
 clear hg
 go_loopw [5] (fun iv wr => ∃ i : Nat, i ≤ n ∧ iv = .int .i64 i ∧ (∀ j, j < i → ss[j]? ≠ some (s1, s2)) ∧ Below w.heap.size w wr ∧ Bk wr g 183 #[.int .i64 (s1 : Int), .slice sA sn sc]) (fun iv _ => n - (intOf iv).toNat)
 case atStart => exact ⟨0, by omega, rfl, (fun j hj => absurd hj (by omega)), b0, k0⟩
 case round =>
  clear b0 k0
  obtain ⟨i, hi, rfl, hno, bw, kS⟩ := hrel
  have HNO := Lib.hid hno
  clear hno
  have x0 := box_cells kS 0 rfl
  have x1 := box_cells kS 1 rfl
  by_cases hlt : i < n
  ·obtain ⟨q, hq⟩ := at_some ss i (by rw [LN.out]; exact hlt)
   obtain ⟨ba, oa, haa, hba, hcc⟩ := HA.out.pos (show 0 < n by omega)
   obtain ⟨cs, ⟨Ai, ni, ci, rfl, hRi, hHi⟩, hcc2⟩ := hcc i q hq
   obtain ⟨q1, q2⟩ := q
   have y0 := (bw.cell (p := ⟨ba, oa + i * 2 + 0, none⟩) hba).trans (hcc2 0 _ rfl)
   have y1 := (bw.cell (p := ⟨ba, oa + i * 2 + 1, none⟩) hba).trans (hcc2 1 _ rfl)
   rw [Nat.add_zero] at y0
   have hni : ni ≤ 1000 := by have h1 := hRi.len; have h2 := HL.out _ (List.mem_of_getElem? hq); rw [gls_len] at h1; dsimp only at h1 h2; omega
   have hRw := hRi.mono (lo_mono bw.size) (kept_below bw)
   have hSw := HS0.out.mono (lo_mono bw.size) (kept_below bw)
   have HSA := Lib.hid fun (W : World) (bW : Below wr.heap.size wr W) => same_g Ai sA ni sn ci sc (gls q2) (gls s2) W (hRw.call bW) (hSw.call bW) (by omega) (by omega)
   have iz : (0 : Int) ≤ (i : Int) := by omega
   have inn : (i : Int) < (n : Int) := by omega
   have HQ := Lib.hid hq
   have hNX : (q1, q2) ≠ (s1, s2) → ∀ j, j < i + 1 → ss[j]? ≠ some (s1, s2) := fun hne j hj => by
    by_cases e : j = i
    ·subst e; rw [HQ.out]; intro e2; injection e2 with e2; exact hne e2
    ·exact HNO.out j (by omega)
   have HNX := Lib.hid hNX
   dsimp only at y0 y1
   subst haa
   clear hcc hcc2 hq hRi hHi hRw hSw hba hNX
   go_upto_region 4 with fail
   by_cases hme : q1 = s1
   ·have t1 : ((q1 : Int) == (s1 : Int)) = true := by simp; omega
    by_cases hse : q2 = s2
    ·have HD := Lib.hid (show decide (gls q2 = gls s2) = true by simp [hse])
     have hfi : findL ss (s1, s2) = (i : Int) := findL_at (by rw [HQ.out, hme, hse]) HNO.out
     have HF := Lib.hid hfi
     rw [HD.out] at HSA
     clear hse hfi HD HNX hme
     have HS := Lib.hid fun (W : World) (bW : Below wr.heap.size wr W) => (show W.cell? ⟨ba, oa + i * 2, none⟩ = some (.int .i64 (q1 : Int)) ∧ W.cell? ⟨ba, oa + i * 2 + 1, none⟩ = some (.slice Ai ni ci) ∧ W.cell? ⟨g, 0, none⟩ = some (.int .i64 (s1 : Int)) ∧ W.cell? ⟨g, 1, none⟩ = some (.slice sA sn sc) from ⟨cell_call y0 bW, cell_call y1 bW, cell_call x0 bW, cell_call x1 bW⟩)
     have bb := Below.refl wr.heap.size wr
     refine wp_region_held_drew (S := fun w' => w'.cell? ⟨ba, oa + i * 2, none⟩ = some (.int .i64 (q1 : Int)) ∧ w'.cell? ⟨ba, oa + i * 2 + 1, none⟩ = some (.slice Ai ni ci) ∧ w'.cell? ⟨g, 0, none⟩ = some (.int .i64 (s1 : Int)) ∧ w'.cell? ⟨g, 1, none⟩ = some (.slice sA sn sc)) (by kernel_rfl) ?_ (fun hHeld => ?_)
     ·exact HS.out _ (below_drewN bb 1)
     replace bb := below_drewN bb 1
     change Below _ _ wr.drew at bb
     generalize hw0 : wr.drew = W0 at hHeld bb ⊢
     clear hw0
     refine tkB 0 (v := ?_) (by assumption) ?_ ?_
     rotate_left 1
     ·intro w hSw; (try dsimp only at hSw); go_simp; try with_reducible rfl
     refine tkB 1 (v := ?_) (by assumption) ?_ ?_
     rotate_left 1
     ·intro w hSw; (try dsimp only at hSw); go_simp; try with_reducible rfl
     refine tkB 2 (v := ?_) (by assumption) ?_ ?_
     rotate_left 1
     ·intro w hSw; (try dsimp only at hSw); go_simp; try with_reducible rfl
     refine tkB 3 (v := ?_) (by assumption) ?_ ?_
     rotate_left 1
     ·intro w hSw; (try dsimp only at hSw); go_simp; try with_reducible rfl
     refine tkB 4 (v := ?_) (by assumption) ?_ ?_
     rotate_left 1
     ·intro w hSw; (try dsimp only at hSw); go_simp; try with_reducible rfl
     refine tkB 5 (v := ?_) (by assumption) ?_ ?_
     rotate_left 1
     ·intro w hSw; (try dsimp only at hSw); go_simp; try with_reducible rfl
     refine tkB 6 (v := ?_) (by assumption) ?_ ?_
     rotate_left 1
     ·intro w hSw; (try dsimp only at hSw); go_simp; try with_reducible rfl
     refine tkB 7 (v := ?_) (by assumption) ?_ ?_
     rotate_left 1
     ·intro w hSw; (try dsimp only at hSw); go_simp; try with_reducible rfl
     refine tkB 8 (v := ?_) (by assumption) ?_ ?_
     rotate_left 1
     ·intro w hSw; (try dsimp only at hSw); go_simp; try with_reducible rfl
     refine tkB 9 (v := ?_) (by assumption) ?_ ?_
     rotate_left 1
     ·intro w hSw; (try dsimp only at hSw); go_simp; try with_reducible rfl
     refine tkB 10 (v := ?_) (by assumption) ?_ ?_
     rotate_left 1
     ·intro w hSw; (try dsimp only at hSw); go_simp; try with_reducible rfl
     refine tkB 11 (v := ?_) (by assumption) ?_ ?_
     rotate_left 1
     ·intro w hSw; (try dsimp only at hSw); go_simp; try with_reducible rfl
     refine tkB 12 (v := ?_) (by assumption) ?_ ?_
     rotate_left 1
     ·intro w hSw; (try dsimp only at hSw); go_simp; try with_reducible rfl
     refine tkB 13 (v := ?_) (by assumption) ?_ ?_
     rotate_left 1
     ·intro w hSw; (try dsimp only at hSw); go_simp; try with_reducible rfl
     refine tkB 14 (v := ?_) (by assumption) ?_ ?_
     rotate_left 1
     ·intro w hSw; (try dsimp only at hSw); go_simp; try with_reducible rfl
     refine tkB 15 (v := ?_) (by assumption) ?_ ?_
     rotate_left 1
     ·intro w hSw; (try dsimp only at hSw); go_simp; try with_reducible rfl
     refine wpAnyH_ready (rs := [16]) (by kernel_rfl) (by simp) ?_
     refine AllReadyH.cons (by simp only [List.getElem?_toArray]; rfl) (fun K hK => ?_) AllReadyH.nil
     refine wanted_pos (by kernel_rfl) ?_
     go_simp
     clear hHeld
     go_at_call 51
     (with_reducible refine (HSA.out _ bb).mono ?_)
     rintro e V1 ⟨rfl, bn⟩
     go_wp2_with fail
     refine hK.out _ _ ?_ (fun hHeld => ?_)
     ·exact HS.out _ (bb.trans (bn.mono bb.size))
     clear hK K
     try conv => arg 8; simp only [Act.put, List.setIfInBounds_toArray, List.set_cons_zero, List.set_cons_succ]
     replace bb := bb.trans (bn.mono bb.size)
     clear bn
     refine tkB 17 (v := ?_) (by assumption) ?_ ?_
     rotate_left 1
     ·intro w hSw; (try dsimp only at hSw); go_simp; try with_reducible rfl
     refine wpAnyH_done (by kernel_rfl) ?_ _
     go_wp2
     go_ret
     exact ⟨by rw [HF.out]; rfl, below_call bw bb⟩
    ·have HD := Lib.hid (show decide (gls q2 = gls s2) = false by rw [decide_eq_false_iff_not]; exact fun e => hse (gls_inj e))
     have HN2 := Lib.hid (HNX.out (fun e => hse (by injection e)))
     rw [HD.out] at HSA
     clear hse HD HNX hme
     have HS := Lib.hid fun (W : World) (bW : Below wr.heap.size wr W) => (show W.cell? ⟨ba, oa + i * 2, none⟩ = some (.int .i64 (q1 : Int)) ∧ W.cell? ⟨ba, oa + i * 2 + 1, none⟩ = some (.slice Ai ni ci) ∧ W.cell? ⟨g, 0, none⟩ = some (.int .i64 (s1 : Int)) ∧ W.cell? ⟨g, 1, none⟩ = some (.slice sA sn sc) from ⟨cell_call y0 bW, cell_call y1 bW, cell_call x0 bW, cell_call x1 bW⟩)
     have bb := Below.refl wr.heap.size wr
     refine wp_region_held_drew (S := fun w' => w'.cell? ⟨ba, oa + i * 2, none⟩ = some (.int .i64 (q1 : Int)) ∧ w'.cell? ⟨ba, oa + i * 2 + 1, none⟩ = some (.slice Ai ni ci) ∧ w'.cell? ⟨g, 0, none⟩ = some (.int .i64 (s1 : Int)) ∧ w'.cell? ⟨g, 1, none⟩ = some (.slice sA sn sc)) (by kernel_rfl) ?_ (fun hHeld => ?_)
     ·exact HS.out _ (below_drewN bb 1)
     replace bb := below_drewN bb 1
     change Below _ _ wr.drew at bb
     generalize hw0 : wr.drew = W0 at hHeld bb ⊢
     clear hw0
     refine tkB 0 (v := ?_) (by assumption) ?_ ?_
     rotate_left 1
     ·intro w hSw; (try dsimp only at hSw); go_simp; try with_reducible rfl
     refine tkB 1 (v := ?_) (by assumption) ?_ ?_
     rotate_left 1
     ·intro w hSw; (try dsimp only at hSw); go_simp; try with_reducible rfl
     refine tkB 2 (v := ?_) (by assumption) ?_ ?_
     rotate_left 1
     ·intro w hSw; (try dsimp only at hSw); go_simp; try with_reducible rfl
     refine tkB 3 (v := ?_) (by assumption) ?_ ?_
     rotate_left 1
     ·intro w hSw; (try dsimp only at hSw); go_simp; try with_reducible rfl
     refine tkB 4 (v := ?_) (by assumption) ?_ ?_
     rotate_left 1
     ·intro w hSw; (try dsimp only at hSw); go_simp; try with_reducible rfl
     refine tkB 5 (v := ?_) (by assumption) ?_ ?_
     rotate_left 1
     ·intro w hSw; (try dsimp only at hSw); go_simp; try with_reducible rfl
     refine tkB 6 (v := ?_) (by assumption) ?_ ?_
     rotate_left 1
     ·intro w hSw; (try dsimp only at hSw); go_simp; try with_reducible rfl
     refine tkB 7 (v := ?_) (by assumption) ?_ ?_
     rotate_left 1
     ·intro w hSw; (try dsimp only at hSw); go_simp; try with_reducible rfl
     refine tkB 8 (v := ?_) (by assumption) ?_ ?_
     rotate_left 1
     ·intro w hSw; (try dsimp only at hSw); go_simp; try with_reducible rfl
     refine tkB 9 (v := ?_) (by assumption) ?_ ?_
     rotate_left 1
     ·intro w hSw; (try dsimp only at hSw); go_simp; try with_reducible rfl
     refine tkB 10 (v := ?_) (by assumption) ?_ ?_
     rotate_left 1
     ·intro w hSw; (try dsimp only at hSw); go_simp; try with_reducible rfl
     refine tkB 11 (v := ?_) (by assumption) ?_ ?_
     rotate_left 1
     ·intro w hSw; (try dsimp only at hSw); go_simp; try with_reducible rfl
     refine tkB 12 (v := ?_) (by assumption) ?_ ?_
     rotate_left 1
     ·intro w hSw; (try dsimp only at hSw); go_simp; try with_reducible rfl
     refine tkB 13 (v := ?_) (by assumption) ?_ ?_
     rotate_left 1
     ·intro w hSw; (try dsimp only at hSw); go_simp; try with_reducible rfl
     refine tkB 14 (v := ?_) (by assumption) ?_ ?_
     rotate_left 1
     ·intro w hSw; (try dsimp only at hSw); go_simp; try with_reducible rfl
     refine tkB 15 (v := ?_) (by assumption) ?_ ?_
     rotate_left 1
     ·intro w hSw; (try dsimp only at hSw); go_simp; try with_reducible rfl
     refine wpAnyH_ready (rs := [16]) (by kernel_rfl) (by simp) ?_
     refine AllReadyH.cons (by simp only [List.getElem?_toArray]; rfl) (fun K hK => ?_) AllReadyH.nil
     refine wanted_pos (by kernel_rfl) ?_
     go_simp
     clear hHeld
     go_at_call 51
     (with_reducible refine (HSA.out _ bb).mono ?_)
     rintro e V1 ⟨rfl, bn⟩
     go_wp2_with fail
     refine hK.out _ _ ?_ (fun hHeld => ?_)
     ·exact HS.out _ (bb.trans (bn.mono bb.size))
     clear hK K
     try conv => arg 8; simp only [Act.put, List.setIfInBounds_toArray, List.set_cons_zero, List.set_cons_succ]
     replace bb := bb.trans (bn.mono bb.size)
     clear bn
     refine tkB 17 (v := ?_) (by assumption) ?_ ?_
     rotate_left 1
     ·intro w hSw; (try dsimp only at hSw); go_simp; try with_reducible rfl
     refine wpAnyH_done (by kernel_rfl) ?_ _
     have kS2 := kS.below bb kS.lt
     have bw2 := below_call bw bb
     clear HS hHeld bb y0 y1 x0 x1
     go_wp2
     go_roundw
     case rel => exact ⟨i + 1, by omega, by go_num, HN2.out, bw2, kS2⟩
     case measure => simp [intOf]; omega
   ·have t1 : ((q1 : Int) == (s1 : Int)) = false := by simp; omega
    have t2 : (q1 == s1) = false := by simpa using hme
    have HN2 := Lib.hid (HNX.out (fun e => hme (by injection e)))
    clear HNX hme
    have HS := Lib.hid fun (W : World) (bW : Below wr.heap.size wr W) => (show W.cell? ⟨ba, oa + i * 2, none⟩ = some (.int .i64 (q1 : Int)) ∧ W.cell? ⟨ba, oa + i * 2 + 1, none⟩ = some (.slice Ai ni ci) ∧ W.cell? ⟨g, 0, none⟩ = some (.int .i64 (s1 : Int)) ∧ W.cell? ⟨g, 1, none⟩ = some (.slice sA sn sc) from ⟨cell_call y0 bW, cell_call y1 bW, cell_call x0 bW, cell_call x1 bW⟩)
    have bb := Below.refl wr.heap.size wr
    refine wp_region_held_drew (S := fun w' => w'.cell? ⟨ba, oa + i * 2, none⟩ = some (.int .i64 (q1 : Int)) ∧ w'.cell? ⟨ba, oa + i * 2 + 1, none⟩ = some (.slice Ai ni ci) ∧ w'.cell? ⟨g, 0, none⟩ = some (.int .i64 (s1 : Int)) ∧ w'.cell? ⟨g, 1, none⟩ = some (.slice sA sn sc)) (by kernel_rfl) ?_ (fun hHeld => ?_)
    ·exact HS.out _ (below_drewN bb 1)
    replace bb := below_drewN bb 1
    change Below _ _ wr.drew at bb
    generalize hw0 : wr.drew = W0 at hHeld bb ⊢
    clear hw0
    refine tkB 0 (v := ?_) (by assumption) ?_ ?_
    rotate_left 1
    ·intro w hSw; (try dsimp only at hSw); go_simp; try with_reducible rfl
    refine tkB 1 (v := ?_) (by assumption) ?_ ?_
    rotate_left 1
    ·intro w hSw; (try dsimp only at hSw); go_simp; try with_reducible rfl
    refine tkB 2 (v := ?_) (by assumption) ?_ ?_
    rotate_left 1
    ·intro w hSw; (try dsimp only at hSw); go_simp; try with_reducible rfl
    refine tkB 3 (v := ?_) (by assumption) ?_ ?_
    rotate_left 1
    ·intro w hSw; (try dsimp only at hSw); go_simp; try with_reducible rfl
    refine tkB 4 (v := ?_) (by assumption) ?_ ?_
    rotate_left 1
    ·intro w hSw; (try dsimp only at hSw); go_simp; try with_reducible rfl
    refine tkB 5 (v := ?_) (by assumption) ?_ ?_
    rotate_left 1
    ·intro w hSw; (try dsimp only at hSw); go_simp; try with_reducible rfl
    refine tkB 6 (v := ?_) (by assumption) ?_ ?_
    rotate_left 1
    ·intro w hSw; (try dsimp only at hSw); go_simp; try with_reducible rfl
    refine tkB 7 (v := ?_) (by assumption) ?_ ?_
    rotate_left 1
    ·intro w hSw; (try dsimp only at hSw); go_simp; try with_reducible rfl
    refine tkB 8 (v := ?_) (by assumption) ?_ ?_
    rotate_left 1
    ·intro w hSw; (try dsimp only at hSw); go_simp; try with_reducible rfl
    refine skB 9 (by assumption) ?_
    refine skB 10 (by assumption) ?_
    refine skB 11 (by assumption) ?_
    refine skB 12 (by assumption) ?_
    refine skB 13 (by assumption) ?_
    refine skB 14 (by assumption) ?_
    refine skB 15 (by assumption) ?_
    refine skB 16 (by assumption) ?_
    refine tkB 17 (v := ?_) (by assumption) ?_ ?_
    rotate_left 1
    ·intro w hSw; (try dsimp only at hSw); go_simp; try with_reducible rfl
    refine wpAnyH_done (by kernel_rfl) ?_ _
    have kS2 := kS.below bb kS.lt
    have bw2 := below_call bw bb
    clear HS hHeld bb y0 y1 x0 x1
    go_wp2
    go_roundw
    case rel => exact ⟨i + 1, by omega, by go_num, HN2.out, bw2, kS2⟩
    case measure => simp [intOf]; omega
  ·have hie : i = n := by omega
   subst hie
   have inn : ¬ ((i : Int) < (i : Int)) := by omega
   have HF := Lib.hid (findL_none (s := (s1, s2)) (by rw [LN.out]; exact HNO.out))
   go_wp2
   go_ret
   exact ⟨by rw [HF.out]; rfl, bw⟩


end Go.Proofs.YtgcmedkaadagmaaDoor
