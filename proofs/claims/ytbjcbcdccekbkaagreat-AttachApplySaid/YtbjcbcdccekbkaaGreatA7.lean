/- Walks: hang. -/
import Derived.Test.YtbjcbcdccekbkaaGreatA6
import Derived.BigRegionIn
namespace Go.Proofs.YtbjcbcdccekbkaaGreat
open Go.RowKit Go.Shelf
attribute [local go_sem] Oper.semAt_some

def pickS (pre : List (Anc × Bas)) : Bas × Anc := pickL pre ⟨-1, 0, 0⟩ ⟨0, 0, 0, 0⟩
theorem pick_snoc (pre : List (Anc × Bas)) (x : Anc × Bas) : pickS (pre ++ [x]) = if (pickS pre).1.p < x.2.p then (x.2, x.1) else pickS pre := by
  unfold pickS pickL; rw [List.foldl_append]; rfl
/-- The blocks that a round does not write. -/
def HSt (w1 : World) (H : Nat) (b : Nat) : Prop := b < w1.heap.size ∧ b ≠ H ∧ b ≠ H + 1
/-- So far: the nearest host, and by which anchor. -/
def HI (W w1 : World) (H : Nat) (pre : List (Anc × Bas)) (X : World) : Prop :=
  Bk X H 90 #[.int .i64 (pickS pre).1.p, .int .i64 (pickS pre).1.x, .int .i64 (pickS pre).1.y] ∧ Bk X (H + 1) 75 #[.int .i64 (pickS pre).2.k, .int .i64 (pickS pre).2.c, .int .i64 (pickS pre).2.x, .int .i64 (pickS pre).2.y] ∧ Kept (HSt w1 H) w1 X ∧ Below H W X ∧ w1.heap.size ≤ X.heap.size
theorem HI.own (W w1 : World) (H : Nat) (hH : H ≤ w1.heap.size) : OwnFrom w1.heap.size (HI W w1 H) := by
  intro pre X Y row h hg hr
  obtain ⟨h1, h2, h3, h4, h5⟩ := h
  refine ⟨h1.own_ hg hr, h2.own_ hg hr, fun b hb => ?_, h4.grown hg (by omega) (fun k e => by have := (hr k e).1; omega), Nat.le_trans h5 hg.size⟩
  exact (hg.block b (by have := hb.1; omega) (fun e => by have := (hr b e.symm).1; have := hb.1; omega)).trans (h3 b hb)
theorem keeps_alloc (X : World) (o : Obj) : KeepsOthers X (X.alloc o) := KeepsOthers.of_grownBy (World.grownBy_alloc X o none) (fun j o' e ho => by cases e)
theorem HI.lit {W w1 : World} {H : Nat} {pre : List (Anc × Bas)} {X : World} (h : HI W w1 H pre X) (hH : H ≤ w1.heap.size) (o : Obj) : HI W w1 H pre (X.alloc o) := HI.own W w1 H hH pre X _ none h (World.grownBy_alloc X o none) (fun r e => by cases e)

theorem gset {W Y : World} {g : Nat} (h : W.grownBy Y (some g)) (q : Nat) (v : Value) : W.grownBy (Y.setCell ⟨g, q, none⟩ v) (some g) := ⟨h.os, h.tape, h.output, by simpa using h.size, fun b hb hne => (Below.heap_setCell Y ⟨g, q, none⟩ v b (fun e => hne (by rw [e]))).trans (h.block b hb hne)⟩
theorem gdrew {W Y : World} {r : Option Nat} (h : W.grownBy Y r) : W.grownBy Y.drew r := ⟨h.os, h.tape, h.output, h.size, h.block⟩
theorem cell_far {w : World} {p : Addr} {b o : Nat} {v x : Value} (hne : p.block ≠ b) (h : w.cell? ⟨b, o, none⟩ = some v) : (w.setCell p x).cell? ⟨b, o, none⟩ = some v := by rw [World.cell?_setCell_far _ _ _ _ hne]; exact h
theorem drew_heap (Y : World) (b : Nat) : Y.drew.heap[b]? = Y.heap[b]? := rfl
theorem Bk.drew_ {w : World} {g t : Nat} {cs : Array Value} (h : Bk w g t cs) : Bk w.drew g t cs := h
theorem keeps_drew (X : World) : KeepsOthers X X.drew := KeepsOthers.of_grownBy (row := none) ⟨rfl, rfl, rfl, Nat.le_refl _, fun _ _ _ => rfl⟩ (fun j o' e ho => by cases e)
set_option maxHeartbeats 1000000 in
theorem hang_set {W w1 X : World} {H : Nat} {sb xb : Bas} {sa xa : Anc} (h1 : Bk X H 90 #[.int .i64 sb.p, .int .i64 sb.x, .int .i64 sb.y]) (h2 : Bk X (H + 1) 75 #[.int .i64 sa.k, .int .i64 sa.c, .int .i64 sa.x, .int .i64 sa.y]) (h3 : Kept (HSt w1 H) w1 X) (h4 : Below H W X) (h5 : w1.heap.size ≤ X.heap.size) :
    KeepsFrom w1.heap.size X (((((((( X.setCell ⟨H, 0, none⟩ (.int .i64 xb.p)).setCell ⟨H, 1, none⟩ (.int .i64 xb.x)).setCell ⟨H, 2, none⟩ (.int .i64 xb.y)).setCell ⟨H + 1, 0, none⟩ (.int .i64 xa.k)).setCell ⟨H + 1, 1, none⟩ (.int .i64 xa.c)).setCell ⟨H + 1, 2, none⟩ (.int .i64 xa.x)).setCell ⟨H + 1, 3, none⟩ (.int .i64 xa.y)).drew) ∧ Kept (HSt w1 H) X (((((((( X.setCell ⟨H, 0, none⟩ (.int .i64 xb.p)).setCell ⟨H, 1, none⟩ (.int .i64 xb.x)).setCell ⟨H, 2, none⟩ (.int .i64 xb.y)).setCell ⟨H + 1, 0, none⟩ (.int .i64 xa.k)).setCell ⟨H + 1, 1, none⟩ (.int .i64 xa.c)).setCell ⟨H + 1, 2, none⟩ (.int .i64 xa.x)).setCell ⟨H + 1, 3, none⟩ (.int .i64 xa.y)).drew) ∧ Bk (((((((( X.setCell ⟨H, 0, none⟩ (.int .i64 xb.p)).setCell ⟨H, 1, none⟩ (.int .i64 xb.x)).setCell ⟨H, 2, none⟩ (.int .i64 xb.y)).setCell ⟨H + 1, 0, none⟩ (.int .i64 xa.k)).setCell ⟨H + 1, 1, none⟩ (.int .i64 xa.c)).setCell ⟨H + 1, 2, none⟩ (.int .i64 xa.x)).setCell ⟨H + 1, 3, none⟩ (.int .i64 xa.y)).drew) H 90 #[.int .i64 xb.p, .int .i64 xb.x, .int .i64 xb.y] ∧ Bk (((((((( X.setCell ⟨H, 0, none⟩ (.int .i64 xb.p)).setCell ⟨H, 1, none⟩ (.int .i64 xb.x)).setCell ⟨H, 2, none⟩ (.int .i64 xb.y)).setCell ⟨H + 1, 0, none⟩ (.int .i64 xa.k)).setCell ⟨H + 1, 1, none⟩ (.int .i64 xa.c)).setCell ⟨H + 1, 2, none⟩ (.int .i64 xa.x)).setCell ⟨H + 1, 3, none⟩ (.int .i64 xa.y)).drew) (H + 1) 75 #[.int .i64 xa.k, .int .i64 xa.c, .int .i64 xa.x, .int .i64 xa.y] ∧ Kept (HSt w1 H) w1 (((((((( X.setCell ⟨H, 0, none⟩ (.int .i64 xb.p)).setCell ⟨H, 1, none⟩ (.int .i64 xb.x)).setCell ⟨H, 2, none⟩ (.int .i64 xb.y)).setCell ⟨H + 1, 0, none⟩ (.int .i64 xa.k)).setCell ⟨H + 1, 1, none⟩ (.int .i64 xa.c)).setCell ⟨H + 1, 2, none⟩ (.int .i64 xa.x)).setCell ⟨H + 1, 3, none⟩ (.int .i64 xa.y)).drew) ∧ Below H W (((((((( X.setCell ⟨H, 0, none⟩ (.int .i64 xb.p)).setCell ⟨H, 1, none⟩ (.int .i64 xb.x)).setCell ⟨H, 2, none⟩ (.int .i64 xb.y)).setCell ⟨H + 1, 0, none⟩ (.int .i64 xa.k)).setCell ⟨H + 1, 1, none⟩ (.int .i64 xa.c)).setCell ⟨H + 1, 2, none⟩ (.int .i64 xa.x)).setCell ⟨H + 1, 3, none⟩ (.int .i64 xa.y)).drew) ∧ w1.heap.size ≤ (((((((( X.setCell ⟨H, 0, none⟩ (.int .i64 xb.p)).setCell ⟨H, 1, none⟩ (.int .i64 xb.x)).setCell ⟨H, 2, none⟩ (.int .i64 xb.y)).setCell ⟨H + 1, 0, none⟩ (.int .i64 xa.k)).setCell ⟨H + 1, 1, none⟩ (.int .i64 xa.c)).setCell ⟨H + 1, 2, none⟩ (.int .i64 xa.x)).setCell ⟨H + 1, 3, none⟩ (.int .i64 xa.y)).drew).heap.size := by
  have kk : Kept (HSt w1 H) X (((((((( X.setCell ⟨H, 0, none⟩ (.int .i64 xb.p)).setCell ⟨H, 1, none⟩ (.int .i64 xb.x)).setCell ⟨H, 2, none⟩ (.int .i64 xb.y)).setCell ⟨H + 1, 0, none⟩ (.int .i64 xa.k)).setCell ⟨H + 1, 1, none⟩ (.int .i64 xa.c)).setCell ⟨H + 1, 2, none⟩ (.int .i64 xa.x)).setCell ⟨H + 1, 3, none⟩ (.int .i64 xa.y)).drew) := fun b hb => by
    rw [drew_heap, Below.heap_setCell _ _ _ _ hb.2.2, Below.heap_setCell _ _ _ _ hb.2.2, Below.heap_setCell _ _ _ _ hb.2.2, Below.heap_setCell _ _ _ _ hb.2.2, Below.heap_setCell _ _ _ _ hb.2.1, Below.heap_setCell _ _ _ _ hb.2.1, Below.heap_setCell _ _ _ _ hb.2.1]
  refine ⟨?_, kk, ?_, ?_, h3.trans kk, ?_, ?_⟩
  · exact ((((((((KeepsOthers.setCell X _ _).trans (KeepsOthers.setCell _ _ _)).trans (KeepsOthers.setCell _ _ _)).trans (KeepsOthers.setCell _ _ _)).trans (KeepsOthers.setCell _ _ _)).trans (KeepsOthers.setCell _ _ _)).trans (KeepsOthers.setCell _ _ _)).trans (keeps_drew _)).from _
  · exact Bk.drew_ ((((((( h1.set_ 0 (.int .i64 xb.p)).set_ 1 (.int .i64 xb.x)).set_ 2 (.int .i64 xb.y)).far (p := ⟨H + 1, 0, none⟩) (by dsimp only; omega) _).far (p := ⟨H + 1, 1, none⟩) (by dsimp only; omega) _).far (p := ⟨H + 1, 2, none⟩) (by dsimp only; omega) _).far (p := ⟨H + 1, 3, none⟩) (by dsimp only; omega) _)
  · exact Bk.drew_ ((((((( h2.far (p := ⟨H, 0, none⟩) (by dsimp only; omega) _).far (p := ⟨H, 1, none⟩) (by dsimp only; omega) _).far (p := ⟨H, 2, none⟩) (by dsimp only; omega) _).set_ 0 (.int .i64 xa.k)).set_ 1 (.int .i64 xa.c)).set_ 2 (.int .i64 xa.x)).set_ 3 (.int .i64 xa.y))
  · exact below_drew ((((((( h4.setCell (p := ⟨H, 0, none⟩) (Nat.le_refl _) _).setCell (p := ⟨H, 1, none⟩) (Nat.le_refl _) _).setCell (p := ⟨H, 2, none⟩) (Nat.le_refl _) _).setCell (p := ⟨H + 1, 0, none⟩) (Nat.le_succ _) _).setCell (p := ⟨H + 1, 1, none⟩) (Nat.le_succ _) _).setCell (p := ⟨H + 1, 2, none⟩) (Nat.le_succ _) _).setCell (p := ⟨H + 1, 3, none⟩) (Nat.le_succ _) _)
  · simpa using h5

theorem hosts_ok {anc : List Anc} {bs : Int → Option Bas} {i : Int} (hbs : ∀ c b, bs c = some b → 0 ≤ b.p ∧ b.p < i) {x : Anc × Bas} (hx : x ∈ hostsL anc bs) : 0 ≤ x.2.p ∧ x.2.p < i := by
  unfold hostsL at hx
  obtain ⟨a, _, ha⟩ := List.mem_filterMap.1 hx
  split at ha
  · obtain ⟨b, hb, rfl⟩ := Option.map_eq_some_iff.1 ha
    exact hbs _ _ hb
  · cases ha
theorem pick_ok (ys : List (Anc × Bas)) (i : Int) (h : ∀ x ∈ ys, 0 ≤ x.2.p ∧ x.2.p < i) : (pickS ys).1.p < 0 ∨ (0 ≤ (pickS ys).1.p ∧ (pickS ys).1.p < i) := by
  have key : ∀ (ys : List (Anc × Bas)) (s : Bas × Anc), (∀ x ∈ ys, 0 ≤ x.2.p ∧ x.2.p < i) → (s.1.p < 0 ∨ (0 ≤ s.1.p ∧ s.1.p < i)) → (pickL ys s.1 s.2).1.p < 0 ∨ (0 ≤ (pickL ys s.1 s.2).1.p ∧ (pickL ys s.1 s.2).1.p < i) := by
    intro ys
    induction ys with
    | nil => intro s _ hs; exact hs
    | cons x t ih =>
      intro s h hs
      have e : pickL (x :: t) s.1 s.2 = pickL t (if s.1.p < x.2.p then (x.2, x.1) else s).1 (if s.1.p < x.2.p then (x.2, x.1) else s).2 := rfl
      rw [e]
      refine ih _ (fun y hy => h y (List.mem_cons_of_mem _ hy)) ?_
      split
      · right; exact h x (List.mem_cons_self ..)
      · exact hs
  exact key ys (⟨-1, 0, 0⟩, ⟨0, 0, 0, 0⟩) h (.inl (by show (-1 : Int) < 0; omega))
theorem PS.own_ {B : Nat} {W W' : World} {Bp : Nat} {f : FV} {F : Fnt} {kd : Int} {ign : Bool} {LA : Option Addr} {ll lc : Nat} {num : Int} {RA : Option Addr} {rn rc : Nat} {run : List Itm} (h : PS B W Bp f F kd ign LA ll lc num RA rn rc run) {row : Option Nat} (hg : W.grownBy W' row) {K : Nat} (hK : B ≤ K) (hr : ∀ r, row = some r → K ≤ r ∧ ∃ o : Obj, W.heap[r]? = some o ∧ o.isCells = false) : PS B W' Bp f F kd ign LA ll lc num RA rn rc run :=
  ⟨Nat.le_trans h.hB hg.size, h.lp, h.pk.own_ hg hr, h.font.mono (fun _ h => h) (kept_below ((Below.refl _ _).grown hg h.hB (fun j e => by have := (hr j e).1; omega))), h.own.own_ hg hr⟩

set_option maxRecDepth 100000 in
set_option maxHeartbeats 4000000 in
theorem hang_c (B Bp bm : Nat) (f : FV) (F : Fnt) (kd : Int) (ign : Bool) (LA : Option Addr) (ll lc : Nat) (num : Int) (gi rn rc : Nat) (run : List Itm) (i : Nat) (PA : Option Addr) (pc : Nat) (pens : List Int) (bs : Int → Option Bas) (W : World) (hs : PS B W Bp f F kd ign LA ll lc num (some ⟨gi, 0, none⟩) rn rc run) (hm : MapB W bm bs) (hbm : B ≤ bm) (hi : i < run.length) (hrn : rn ≤ 1000000)
    (hP : Rd W (fun b => b < W.heap.size ∧ b ≠ gi) PA rn pens) (hbs : ∀ c b, bs c = some b → 0 ≤ b.p ∧ b.p < (i : Int)) :
    Calls Tryz.prog 29 #[.pointer (some ⟨Bp, 0, none⟩), .int .i64 (i : Int), .slice PA rn pc, .map (some bm)] W fun e W' => e = .returned (.tuple #[]) ∧ PS B W' Bp f F kd ign LA ll lc num (some ⟨gi, 0, none⟩) rn rc (hangL w64 F run i pens bs) ∧ W.grownBy W' (some gi) := by
  refine (callsIn_wide (n := 5)).1 ?_
  have hFw : ∀ k, Fence.wide.fn k := fun _ => trivial
  have HH := Lib.hid fun (w0 : World) => liftN (n := 4) (hosts_c Bp bm (i : Int) w0)
  refine callsIn_of_wp_marks Tryz.func29 rfl trivial ?_ rfl
  simp only [Tryz.ntmps29, List.size_toArray, List.length_cons, List.length_nil, Nat.reduceAdd, Nat.reduceSub, Array.replicate_succ, Array.replicate_zero, List.push_toArray, List.append_toArray, List.nil_append, List.cons_append]
  gi_wp2_with fail
  refine (HH.out _).mono ?_
  rintro e w1 ⟨rfl, rfl⟩
  gi_wp2
  clear HH
  obtain ⟨H, hH⟩ : ∃ H, H = W.heap.size := ⟨_, rfl⟩
  have bW : Below H W (((((W.alloc (.cells #[.int .i64 (-1), .int .i64 0, .int .i64 0] 90)).alloc (.cells #[.int .i64 0, .int .i64 0, .int .i64 0, .int .i64 0] 75)).alloc (.cells #[.pointer (some ⟨Bp, 0, none⟩)] 47)).alloc (.cells #[.int .i64 (i : Int)] 3)).alloc (.cells #[.map (some bm)] 71)) := by rw [hH]; exact below_lit _ _ (below_lit _ _ (below_lit _ _ (below_lit _ _ (below_lit _ _ (Below.refl _ _) _) _) _) _) _
  have s1 : (((((W.alloc (.cells #[.int .i64 (-1), .int .i64 0, .int .i64 0] 90)).alloc (.cells #[.int .i64 0, .int .i64 0, .int .i64 0, .int .i64 0] 75)).alloc (.cells #[.pointer (some ⟨Bp, 0, none⟩)] 47)).alloc (.cells #[.int .i64 (i : Int)] 3)).alloc (.cells #[.map (some bm)] 71)).heap.size = H + 5 := by rw [hH]; simp
  have k0 : Bk (((((W.alloc (.cells #[.int .i64 (-1), .int .i64 0, .int .i64 0] 90)).alloc (.cells #[.int .i64 0, .int .i64 0, .int .i64 0, .int .i64 0] 75)).alloc (.cells #[.pointer (some ⟨Bp, 0, none⟩)] 47)).alloc (.cells #[.int .i64 (i : Int)] 3)).alloc (.cells #[.map (some bm)] 71)) H 90 #[.int .i64 (-1), .int .i64 0, .int .i64 0] := by rw [hH]; exact ((((Bk.new W _ _).alloc _).alloc _).alloc _).alloc _
  have k1 : Bk (((((W.alloc (.cells #[.int .i64 (-1), .int .i64 0, .int .i64 0] 90)).alloc (.cells #[.int .i64 0, .int .i64 0, .int .i64 0, .int .i64 0] 75)).alloc (.cells #[.pointer (some ⟨Bp, 0, none⟩)] 47)).alloc (.cells #[.int .i64 (i : Int)] 3)).alloc (.cells #[.map (some bm)] 71)) (H + 1) 75 #[.int .i64 0, .int .i64 0, .int .i64 0, .int .i64 0] := by
    have q := Bk.new (W.alloc (.cells #[.int .i64 (-1), .int .i64 0, .int .i64 0] 90)) 75 #[.int .i64 0, .int .i64 0, .int .i64 0, .int .i64 0]
    rw [World.size_alloc, ← hH] at q
    exact ((q.alloc _).alloc _).alloc _
  have k2 : Bk (((((W.alloc (.cells #[.int .i64 (-1), .int .i64 0, .int .i64 0] 90)).alloc (.cells #[.int .i64 0, .int .i64 0, .int .i64 0, .int .i64 0] 75)).alloc (.cells #[.pointer (some ⟨Bp, 0, none⟩)] 47)).alloc (.cells #[.int .i64 (i : Int)] 3)).alloc (.cells #[.map (some bm)] 71)) (H + 1 + 1) 47 #[.pointer (some ⟨Bp, 0, none⟩)] := by
    have q := Bk.new ((W.alloc (.cells #[.int .i64 (-1), .int .i64 0, .int .i64 0] 90)).alloc (.cells #[.int .i64 0, .int .i64 0, .int .i64 0, .int .i64 0] 75)) 47 #[.pointer (some ⟨Bp, 0, none⟩)]
    rw [World.size_alloc, World.size_alloc, ← hH] at q
    exact (q.alloc _).alloc _
  have k3 : Bk (((((W.alloc (.cells #[.int .i64 (-1), .int .i64 0, .int .i64 0] 90)).alloc (.cells #[.int .i64 0, .int .i64 0, .int .i64 0, .int .i64 0] 75)).alloc (.cells #[.pointer (some ⟨Bp, 0, none⟩)] 47)).alloc (.cells #[.int .i64 (i : Int)] 3)).alloc (.cells #[.map (some bm)] 71)) (H + 1 + 1 + 1) 3 #[.int .i64 (i : Int)] := by
    have q := Bk.new (((W.alloc (.cells #[.int .i64 (-1), .int .i64 0, .int .i64 0] 90)).alloc (.cells #[.int .i64 0, .int .i64 0, .int .i64 0, .int .i64 0] 75)).alloc (.cells #[.pointer (some ⟨Bp, 0, none⟩)] 47)) 3 #[.int .i64 (i : Int)]
    rw [World.size_alloc, World.size_alloc, World.size_alloc, ← hH] at q
    exact q.alloc _
  have k4 : Bk (((((W.alloc (.cells #[.int .i64 (-1), .int .i64 0, .int .i64 0] 90)).alloc (.cells #[.int .i64 0, .int .i64 0, .int .i64 0, .int .i64 0] 75)).alloc (.cells #[.pointer (some ⟨Bp, 0, none⟩)] 47)).alloc (.cells #[.int .i64 (i : Int)] 3)).alloc (.cells #[.map (some bm)] 71)) (H + 1 + 1 + 1 + 1) 71 #[.map (some bm)] := by
    have q := Bk.new ((((W.alloc (.cells #[.int .i64 (-1), .int .i64 0, .int .i64 0] 90)).alloc (.cells #[.int .i64 0, .int .i64 0, .int .i64 0, .int .i64 0] 75)).alloc (.cells #[.pointer (some ⟨Bp, 0, none⟩)] 47)).alloc (.cells #[.int .i64 (i : Int)] 3)) 71 #[.map (some bm)]
    rw [World.size_alloc, World.size_alloc, World.size_alloc, World.size_alloc, ← hH] at q
    exact q
  rw [← hH]
  generalize (((((W.alloc (.cells #[.int .i64 (-1), .int .i64 0, .int .i64 0] 90)).alloc (.cells #[.int .i64 0, .int .i64 0, .int .i64 0, .int .i64 0] 75)).alloc (.cells #[.pointer (some ⟨Bp, 0, none⟩)] 47)).alloc (.cells #[.int .i64 (i : Int)] 3)).alloc (.cells #[.map (some bm)] 71)) = w1 at *
  have HHE := Lib.hid hH
  have HS1 := Lib.hid s1
  have bW' : Below W.heap.size W w1 := by rw [← hH]; exact bW
  have hs1 := hs.call bW'
  have hm1 : MapB w1 bm bs := hm.keep (bW'.block bm hm.lt)
  have hHl : H ≤ w1.heap.size := by omega
  have hBH : B ≤ H := by have := hs.hB; omega
  have hbmH : bm < H := by have := hm.lt; omega
  have c2' : w1.cell? ⟨H + 1 + 1, 0, none⟩ = some (.pointer (some ⟨Bp, 0, none⟩)) := by have := k2.cell 0; simpa using this
  have c3' : w1.cell? ⟨H + 1 + 1 + 1, 0, none⟩ = some (.int .i64 (i : Int)) := by have := k3.cell 0; simpa using this
  have c4' : w1.cell? ⟨H + 1 + 1 + 1 + 1, 0, none⟩ = some (.map (some bm)) := by have := k4.cell 0; simpa using this
  have hst := hosts1_stops 4 B _ _ _ Bp bm f F kd ign LA ll lc num _ rn rc run i bs (HSt w1 H) w1 (by omega) hs1 hm1 hi hrn c2' c3' c4' (fun b hb => hb.1) (fun b hb => ⟨by omega, by omega, by omega⟩) ⟨by omega, by omega, by omega⟩ ⟨by omega, by omega, by omega⟩
  have hsz1 : H + 5 ≤ w1.heap.size := by omega
  clear s1 hH bW' k2 k3 k4 hm1 c2' c3' c4'
  refine wpIn_rangeFunc_ownH rfl (by omega) (gf := 48) (lb := #[.pointer (some ⟨H + 1 + 1, 0, none⟩), .pointer (some ⟨H + 1 + 1 + 1, 0, none⟩), .pointer (some ⟨H + 1 + 1 + 1 + 1, 0, none⟩)]) rfl trivial (enters_of Tryz.func48 (by kernel_rfl) rfl)
    hst (fun h k => h.trans k)
    (fun X l o o' hl ho _ _ => fun k hk => World.putObj_heap_other (by have := hk.1; omega)) (Below.refl _ _) (fun _ => rfl)
    (HI W w1 H) (fun _ _ _ => False) (HI.own W w1 H hHl) (fun _ _ _ _ _ h _ _ => h)
    ⟨k0, k1, Kept.refl _ _, bW, Nat.le_refl _⟩
    (fun x a' X => ∃ q, w1.heap.size ≤ q ∧ Bk X q 75 #[.int .i64 x.1.k, .int .i64 x.1.c, .int .i64 x.1.x, .int .i64 x.1.y] ∧ Bk X (q + 1) 90 #[.int .i64 x.2.p, .int .i64 x.2.x, .int .i64 x.2.y] ∧ a' = { tmps := #[Value.pointer (some { block := Bp, off := 0 }), Value.int .i64 (i : Int), Value.slice PA rn pc, Value.map (some bm), undef, undef, undef, undef, Value.pointer (some { block := H, off := 0 }), Value.pointer (some { block := H + 1, off := 0 }), Value.pointer (some { block := q, off := 0 }), Value.pointer (some { block := q + 1, off := 0 }), undef, undef, Value.agg #[Value.int .i64 (-1), Value.int .i64 0, Value.int .i64 0], Value.pointer (some { block := Bp, off := 0 }), Value.int .i64 (i : Int), Value.map (some bm), Value.func (Fn.func 48) #[] #[Value.pointer (some { block := H + 1 + 1, off := 0 }), Value.pointer (some { block := H + 1 + 1 + 1, off := 0 }), Value.pointer (some { block := H + 1 + 1 + 1 + 1, off := 0 })], ancA x.1, basV x.2, undef, undef, undef, undef, undef, undef, undef, undef, undef, undef, undef, undef, undef, undef, undef, undef, undef, undef, undef, undef, undef, undef, undef, undef, undef, undef, undef, undef, undef, undef, undef, undef, undef, undef, undef, undef, undef, undef, undef, undef, undef, undef, undef, undef, undef, undef, undef, undef, undef, undef, undef, undef, undef, undef, undef, undef, undef, undef, undef, undef], defers := [] }) ?hax ?assign ?body ?done ?stop
  case hax =>
    rintro x a' _ X Y row ⟨q, h1, h2, h3, h4⟩ hg hr
    exact ⟨q, h1, h2.own_ hg hr, h3.own_ hg hr, h4⟩
  case stop => rintro D c pre X _ _ h _; exact h.elim
  case assign =>
    rintro l pre x X K hI hK
    have hl5 := hI.2.2.2.2
    gi_wp2
    have q2 := Bk.new (X.alloc (.cells #[.int .i64 x.1.k, .int .i64 x.1.c, .int .i64 x.1.x, .int .i64 x.1.y] 75)) 90 #[.int .i64 x.2.p, .int .i64 x.2.x, .int .i64 x.2.y]
    rw [World.size_alloc] at q2
    refine hK _ _ ((keeps_alloc _ _).trans (keeps_alloc _ _) |>.from _) (fun b hb => ?_) ((hI.lit hHl _).lit hHl _) ⟨X.heap.size, hl5, (Bk.new _ _ _).alloc _, q2, rfl⟩
    have hb1 := hb.1
    exact (Below.heap_alloc _ _ _ (by simp; omega)).trans (Below.heap_alloc _ _ _ (by omega))
  case body =>
    rintro l pre x a' X hl _ ⟨h1, h2, h3, h4, h5⟩ ⟨q, hq, b1, b2, rfl⟩ hlen
    obtain ⟨xa, xb⟩ := x
    dsimp only at b1 b2
    have hpk := pick_snoc pre (xa, xb)
    have HPK := Lib.hid hpk
    clear hpk hst hlen
    dsimp only
    generalize pickS pre = s at *
    obtain ⟨sb, sa⟩ := s
    dsimp only at h1 h2 HPK
    have p0 : X.cell? ⟨H, 0, none⟩ = some (.int .i64 sb.p) := by have := h1.cell 0; simpa using this
    have p1 : X.cell? ⟨H, 1, none⟩ = some (.int .i64 sb.x) := by have := h1.cell 1; simpa using this
    have p2 : X.cell? ⟨H, 2, none⟩ = some (.int .i64 sb.y) := by have := h1.cell 2; simpa using this
    have r0 : X.cell? ⟨H + 1, 0, none⟩ = some (.int .i64 sa.k) := by have := h2.cell 0; simpa using this
    have r1 : X.cell? ⟨H + 1, 1, none⟩ = some (.int .i64 sa.c) := by have := h2.cell 1; simpa using this
    have r2 : X.cell? ⟨H + 1, 2, none⟩ = some (.int .i64 sa.x) := by have := h2.cell 2; simpa using this
    have r3 : X.cell? ⟨H + 1, 3, none⟩ = some (.int .i64 sa.y) := by have := h2.cell 3; simpa using this
    have a0 : X.cell? ⟨q, 0, none⟩ = some (.int .i64 xa.k) := by have := b1.cell 0; simpa using this
    have a1 : X.cell? ⟨q, 1, none⟩ = some (.int .i64 xa.c) := by have := b1.cell 1; simpa using this
    have a2 : X.cell? ⟨q, 2, none⟩ = some (.int .i64 xa.x) := by have := b1.cell 2; simpa using this
    have a3 : X.cell? ⟨q, 3, none⟩ = some (.int .i64 xa.y) := by have := b1.cell 3; simpa using this
    have e0 : X.cell? ⟨q + 1, 0, none⟩ = some (.int .i64 xb.p) := by have := b2.cell 0; simpa using this
    have e1 : X.cell? ⟨q + 1, 1, none⟩ = some (.int .i64 xb.x) := by have := b2.cell 1; simpa using this
    have e2 : X.cell? ⟨q + 1, 2, none⟩ = some (.int .i64 xb.y) := by have := b2.cell 2; simpa using this
    have fh := fun j => h1.frozen j
    have fa := fun j => h2.frozen j
    have n1 : H ≠ q := by omega
    have n2 : H ≠ q + 1 := by omega
    have n3 : H + 1 ≠ q := by omega
    have n4 : H + 1 ≠ q + 1 := by omega
    by_cases hgt : sb.p < xb.p
    · rw [if_pos hgt] at HPK
      gi_wp2
      gi_region
      all_goals
        gi_wp2
        obtain ⟨z1, z2, z3, z4, z5, z6, z7⟩ := hang_set (xa := xa) (xb := xb) h1 h2 h3 h4 h5
        exact ⟨z1, z2, by rw [HPK.out]; exact z3, by rw [HPK.out]; exact z4, z5, z6, z7⟩
    · have tgt : decide (sb.p < xb.p) = false := by simp; omega
      rw [if_neg hgt] at HPK
      gi_wp2
      exact ⟨KeepsFrom.refl _ _, Kept.refl _ _, by rw [HPK.out]; exact h1, by rw [HPK.out]; exact h2, h3, h4, h5⟩
  case done =>
    rintro D ys X hD hys ⟨h1, h2, h3, h4, h5⟩ hK
    have hsX : PS B X Bp f F kd ign LA ll lc num (some ⟨gi, 0, none⟩) rn rc run := hs.call (by rw [← HHE.out]; exact h4)
    have hPX : Rd X (fun b => b < X.heap.size ∧ b ≠ gi) PA rn pens := hP.mono (fun b h => ⟨by have := h4.size; have := h.1; have := HHE.out; omega, h.2⟩) (fun b hb => h4.block b (by rw [HHE.out]; exact hb.1))
    have hgH : gi < H := by have := (hs.own.lt gi 0 none rfl).2; have := HHE.out; omega
    have hpo := pick_ok ys (i : Int) (fun x hx => by rw [hys] at hx; exact hosts_ok hbs hx)
    have hhL : hangL w64 F run i pens bs = if (pickS ys).1.p < 0 then run else run.set i { itAt run i with a := 0, x := w64 (w64 (w64 (w64 (pens.getD (pickS ys).1.p.toNat 0 + (itAt run (pickS ys).1.p.toNat).x) + (pickS ys).1.x) - pens.getD i 0) - (pickS ys).2.x), y := w64 (w64 ((itAt run (pickS ys).1.p.toNat).y + (pickS ys).1.y) - (pickS ys).2.y) } := by
      rw [hys]; rfl
    have HHL := Lib.hid hhL
    clear hhL hst hys
    generalize pickS ys = s at *
    obtain ⟨sb, sa⟩ := s
    dsimp only at h1 h2 hpo HHL
    have p0 : X.cell? ⟨H, 0, none⟩ = some (.int .i64 sb.p) := by have := h1.cell 0; simpa using this
    have p1 : X.cell? ⟨H, 1, none⟩ = some (.int .i64 sb.x) := by have := h1.cell 1; simpa using this
    have p2 : X.cell? ⟨H, 2, none⟩ = some (.int .i64 sb.y) := by have := h1.cell 2; simpa using this
    have r2 : X.cell? ⟨H + 1, 2, none⟩ = some (.int .i64 sa.x) := by have := h2.cell 2; simpa using this
    have r3 : X.cell? ⟨H + 1, 3, none⟩ = some (.int .i64 sa.y) := by have := h2.cell 3; simpa using this
    by_cases hneg : sb.p < 0
    · rw [if_pos hneg] at HHL
      gi_wp2
      refine ⟨by simp, .inl ⟨_, _, rfl, run_takeDeferred hK, ?_⟩⟩
      have hgp := grownBy_putObj' X D (.deferred none)
      have hrr : ∀ r, some D = some r → w1.heap.size ≤ r ∧ ∃ o : Obj, X.heap[r]? = some o ∧ o.isCells = false := fun r e => by cases e; exact ⟨hD, _, hK, rfl⟩
      refine ⟨_, results_none rfl _ _ _, rfl, ?_, ?_⟩
      · rw [HHL.out]; exact hsX.own_ hgp (by omega) hrr
      · have hb := h4.grown hgp (by omega) (fun k e => by have := (hrr k e).1; omega)
        exact ⟨hb.os, hb.tape, hb.output, hb.size, fun b hb' _ => hb.block b (by have := HHE.out; omega)⟩
    · have t0 : decide (sb.p < 0) = false := by simp; omega
      rw [if_neg hneg] at HHL
      obtain ⟨hp, hpe⟩ : ∃ n : Nat, sb.p = n := ⟨sb.p.toNat, by omega⟩
      rw [hpe, Int.toNat_natCast] at HHL
      rw [hpe] at p0 t0
      have hhi : hp < i := by omega
      have hrl := hsX.len
      obtain ⟨on, hon⟩ := at_some run hp (by omega)
      obtain ⟨it, hit⟩ := at_some run i hi
      rw [itAt_some hon, itAt_some hit] at HHL
      have o0 := hsX.own.cell (itc_at hon (j := 0) (v := .int .i64 on.g) rfl)
      have o1 := hsX.own.cell (itc_at hon (j := 1) (v := .int .i64 on.c) rfl)
      have o2 := hsX.own.cell (itc_at hon (j := 2) (v := .int .i64 on.f) rfl)
      have o3 := hsX.own.cell (itc_at hon (j := 3) (v := .int .i64 on.a) rfl)
      have o4 := hsX.own.cell (itc_at hon (j := 4) (v := .int .i64 on.x) rfl)
      have o5 := hsX.own.cell (itc_at hon (j := 5) (v := .int .i64 on.y) rfl)
      rw [Nat.add_zero] at o0
      have c13 := hsX.c13
      have hz : (0 : Int) ≤ (hp : Int) := by omega
      have hr' : (hp : Int) < (rn : Int) := by omega
      have iz : (0 : Int) ≤ (i : Int) := by omega
      have ir : (i : Int) < (rn : Int) := by omega
      have hpl := hPX.len
      obtain ⟨pb, po, rfl, hpb, _⟩ := hPX.pos (by omega)
      have pg := hPX.getD
      have ph := pg hp (by omega)
      have pi_ := pg i (by omega)
      have hgX := (hsX.own.lt gi 0 none rfl).2
      have gX : W.grownBy X (some gi) := ⟨h4.os, h4.tape, h4.output, h4.size, fun b hb' _ => h4.block b (by rw [HHE.out]; exact hb')⟩
      have nD : D ≠ gi := by omega
      have HKD := Lib.hid hK; have HGX := Lib.hid gX
      clear hK gX
      have hHX := h1.lt
      have hHX1 := h2.lt
      have hBpX := hsX.pk.lt
      have HSX := Lib.hid hsX; have HON := Lib.hid hon; have HIT := Lib.hid hit
      have HPE := Lib.hid hpe
      clear hsX hPX pg hpl hrl hon hit hpo hneg hpe hbs hP hs hm
      gi_wp2
      refine wpIn_mono (Q := NoPanic _) ?_ NoPanic.imp
      gi_region
      all_goals refine NoPanic.normal ?_
      generalize hY : (World.drew (X.alloc (.cells #[.int .i64 on.g, .int .i64 on.c, .int .i64 on.f, .int .i64 on.a, .int .i64 on.x, .int .i64 on.y] 57))) = Y
      have bx : Bk Y X.heap.size 57 #[.int .i64 on.g, .int .i64 on.c, .int .i64 on.f, .int .i64 on.a, .int .i64 on.x, .int .i64 on.y] := by rw [← hY]; exact Bk.drew_ (Bk.new _ _ _)
      have b1 : Below X.heap.size X Y := by rw [← hY]; exact below_drew ((Below.refl _ _).alloc (Nat.le_refl _) _)
      clear hY
      have hsY := HSX.out.call b1
      have hDY := (b1.block D (Array.getElem?_eq_some_iff.1 HKD.out).1).trans HKD.out
      have gY := grown_call HGX.out b1
      have t4 : Y.cell? ⟨X.heap.size, 4, none⟩ = some (.int .i64 on.x) := by have := bx.cell 4; simpa using this
      have t5 : Y.cell? ⟨X.heap.size, 5, none⟩ = some (.int .i64 on.y) := by have := bx.cell 5; simpa using this
      have p0' := cell_call p0 b1; have p1' := cell_call p1 b1; have p2' := cell_call p2 b1
      have r2' := cell_call r2 b1; have r3' := cell_call r3 b1
      have ph' := cell_call ph b1; have pi' := cell_call pi_ b1
      have fz := fun j => hsY.own.frozen j
      have nH : gi ≠ H := by omega
      have nH1 : gi ≠ H + 1 := by omega
      have nX : gi ≠ X.heap.size := by omega
      have nP : gi ≠ pb := Ne.symm hpb.2
      have d3 := hsY.own.cell (itc_at HIT.out (j := 3) (v := .int .i64 it.a) rfl)
      have d4 := hsY.own.cell (itc_at HIT.out (j := 4) (v := .int .i64 it.x) rfl)
      have d5 := hsY.own.cell (itc_at HIT.out (j := 5) (v := .int .i64 it.y) rfl)
      clear p0 p1 p2 r2 r3 ph pi_ o0 o1 o2 o3 o4 o5 c13
      gi_wp2
      obtain ⟨hsZ, bZ⟩ := hsY.store (i * 6 + 3) (.int .i64 0) (itc_setj (it' := { it with a := 0 }) HIT.out rfl (by omega))
      have hDZ := (Below.heap_setCell Y ⟨gi, i * 6 + 3, none⟩ (.int .i64 0) D nD).trans hDY
      have gZ := gset gY (i * 6 + 3) (.int .i64 0)
      have p0z := cell_far (p := ⟨gi, i * 6 + 3, none⟩) (x := .int .i64 0) nH p0'
      have p1z := cell_far (p := ⟨gi, i * 6 + 3, none⟩) (x := .int .i64 0) nH p1'
      have p2z := cell_far (p := ⟨gi, i * 6 + 3, none⟩) (x := .int .i64 0) nH p2'
      have r2z := cell_far (p := ⟨gi, i * 6 + 3, none⟩) (x := .int .i64 0) nH1 r2'
      have r3z := cell_far (p := ⟨gi, i * 6 + 3, none⟩) (x := .int .i64 0) nH1 r3'
      have t4z := cell_far (p := ⟨gi, i * 6 + 3, none⟩) (x := .int .i64 0) nX t4
      have t5z := cell_far (p := ⟨gi, i * 6 + 3, none⟩) (x := .int .i64 0) nX t5
      have phz := cell_far (p := ⟨gi, i * 6 + 3, none⟩) (x := .int .i64 0) nP ph'
      have piz := cell_far (p := ⟨gi, i * 6 + 3, none⟩) (x := .int .i64 0) nP pi'
      clear p0' p1' p2' r2' r3' t4 t5 ph' pi' fz d3 d4 d5 h1 h2 bx k0 hs1 hDY gY
      generalize Y.setCell ⟨gi, i * 6 + 3, none⟩ (.int .i64 0) = Z at *
      have hIz : (run.set i { it with a := 0 })[i]? = some { it with a := 0 } := by simp [List.getElem?_set_self hi]
      have d4 := hsZ.own.cell (itc_at hIz (j := 4) (v := .int .i64 it.x) rfl)
      have fz4 := hsZ.own.frozen (i * 6 + 4)
      have HSZ := Lib.hid hsZ; have HBZ := Lib.hid bZ; have HSY := Lib.hid hsY; have HB1 := Lib.hid b1; have HIZ := Lib.hid hIz; have HDZ := Lib.hid hDZ; have HGZ := Lib.hid gZ
      clear hsZ bZ hsY b1 hIz hDZ gZ
      have hrnN : rn ≤ 9223372036854775807 := by omega
      as_aux_lemma =>
        refine wpIn_mono (Q := NoPanic _) ?_ NoPanic.imp
        gi_big_region
        refine NoPanic.normal ?_
        as_aux_lemma =>
          generalize hvx : wrap64 (wrap64 (wrap64 (wrap64 (pens[hp]?.getD 0 + on.x) + sb.x) - pens[i]?.getD 0) - sa.x) = vx
          obtain ⟨hsV, bV⟩ := HSZ.out.store (i * 6 + 4) (.int .i64 vx) (itc_setj (it' := { it with a := 0, x := vx }) HIZ.out rfl (by omega))
          have p2v := cell_far (p := ⟨gi, i * 6 + 4, none⟩) (x := .int .i64 vx) nH p2z
          have r3v := cell_far (p := ⟨gi, i * 6 + 4, none⟩) (x := .int .i64 vx) nH1 r3z
          have t5v := cell_far (p := ⟨gi, i * 6 + 4, none⟩) (x := .int .i64 vx) nX t5z
          have hDV : (World.drew (Z.setCell ⟨gi, i * 6 + 4, none⟩ (.int .i64 vx))).heap[D]? = _ := (Below.heap_setCell Z ⟨gi, i * 6 + 4, none⟩ (.int .i64 vx) D nD).trans HDZ.out
          have gV := gdrew (gset HGZ.out (i * 6 + 4) (.int .i64 vx))
          have hsV := hsV.drew_
          rw [List.set_set] at hsV
          have bV := below_drew bV
          have p2v : (World.drew (Z.setCell ⟨gi, i * 6 + 4, none⟩ (.int .i64 vx))).cell? _ = _ := p2v
          have r3v : (World.drew (Z.setCell ⟨gi, i * 6 + 4, none⟩ (.int .i64 vx))).cell? _ = _ := r3v
          have t5v : (World.drew (Z.setCell ⟨gi, i * 6 + 4, none⟩ (.int .i64 vx))).cell? _ = _ := t5v
          clear p0z p1z p2z r2z r3z t4z t5z phz piz d4 fz4
          generalize World.drew (Z.setCell ⟨gi, i * 6 + 4, none⟩ (.int .i64 vx)) = V at *
          have hIv : (run.set i { it with a := 0, x := vx })[i]? = some { it with a := 0, x := vx } := by simp [List.getElem?_set_self hi]
          have d5 := hsV.own.cell (itc_at hIv (j := 5) (v := .int .i64 it.y) rfl)
          have fz5 := hsV.own.frozen (i * 6 + 5)
          have HSV := Lib.hid hsV; have HIV := Lib.hid hIv; have HDV := Lib.hid hDV; have HGV := Lib.hid gV; have HVX := Lib.hid hvx
          clear hsV hIv hDV gV hvx bV
          gi_wp2
          generalize hvy : wrap64 (wrap64 (on.y + sb.y) - sa.y) = vy
          obtain ⟨hsF, _⟩ := HSV.out.store (i * 6 + 5) (.int .i64 vy) (itc_setj (it' := { it with a := 0, x := vx, y := vy }) HIV.out rfl (by omega))
          rw [List.set_set] at hsF
          have hDF := (Below.heap_setCell V ⟨gi, i * 6 + 5, none⟩ (.int .i64 vy) D nD).trans HDV.out
          have gF := gset HGV.out (i * 6 + 5) (.int .i64 vy)
          refine ⟨by simp, .inl ⟨_, _, rfl, run_takeDeferred hDF, ?_⟩⟩
          have hgp := grownBy_putObj' (V.setCell ⟨gi, i * 6 + 5, none⟩ (.int .i64 vy)) D (.deferred none)
          have hrr : ∀ r, some D = some r → w1.heap.size ≤ r ∧ ∃ o : Obj, (V.setCell ⟨gi, i * 6 + 5, none⟩ (.int .i64 vy)).heap[r]? = some o ∧ o.isCells = false := fun r e => by cases e; exact ⟨hD, _, hDF, rfl⟩
          refine ⟨_, results_none rfl _ _ _, rfl, ?_, ?_⟩
          · have hval : hangL w64 F run i pens bs = run.set i { it with a := 0, x := vx, y := vy } := by
              rw [HHL.out, ← hvy, ← HVX.out]
              simp only [List.getD_eq_getElem?_getD, w64]
            rw [hval]; exact hsF.own_ hgp (by omega) hrr
          · exact gF.andThen hgp (fun k e => .inl (by have := (hrr k e).1; have := HHE.out; omega))

end Go.Proofs.YtbjcbcdccekbkaaGreat
