/- Walks: sorted. -/
import Derived.Test.YtkoocipagndclaaW11
import Derived.Deep.RegionHeld3
import Derived.Deep.DrawnRows
import Derived.Deep.MidRow
namespace Go.Proofs.Ytkoocipagndclaa
open Go.RowKit Go.Shelf
attribute [local go_sem ↓] Go.wp_at_zero Go.wp_at_succ

/-- A rule as matches look at it: its sets rise. -/
def srtR (r : Rul) : Rul := { back := r.back.map srtS, inn := r.inn.map srtS, ahead := r.ahead.map srtS, out := [], calls := [], x := 0 }
/-- The cells of such a rule. -/
def rc3 (a b c : Option Addr × Nat × Nat) : List Value := [hv a, hv b, hv c, .slice none 0 0, .slice none 0 0, .int .i64 0]
def RuleIn (S : Nat → Prop) (wr : World) (r : Rul) (a b c : Option Addr × Nat × Nat) : Prop :=
  RdV wr (SV S wr) a.1 a.2.1 (srtR r).back ∧ RdV wr (SV S wr) b.1 b.2.1 (srtR r).inn ∧ RdV wr (SV S wr) c.1 c.2.1 (srtR r).ahead ∧ Hd a.2.1 a.2.2 ∧ Hd b.2.1 b.2.2 ∧ Hd c.2.1 c.2.2
def RulesAt (S : Nat → Prop) (wr : World) (rs : List Rul) (cs : List Value) (k : Nat) : Prop :=
  ∀ (i : Nat) (r : Rul), i < k → rs[i]? = some r → ∃ a b c, (∀ j v, (rc3 a b c)[j]? = some v → cs[i * 6 + j]? = some v) ∧ RuleIn S wr r a b c
theorem RdV.sv {S : Nat → Prop} {wr wr' : World} {A : Option Addr} {n : Nat} {xs : List (List Int)} (h : RdV wr (SV S wr) A n xs) (hk : Kept (SV S wr) wr wr') : RdV wr' (SV S wr') A n xs := h.mono (fun _ hb => hb.keep hk) hk
theorem RuleIn.keep {S : Nat → Prop} {wr wr' : World} {r : Rul} {a b c : Option Addr × Nat × Nat} (h : RuleIn S wr r a b c) (hk : Kept (SV S wr) wr wr') : RuleIn S wr' r a b c := ⟨h.1.sv hk, h.2.1.sv hk, h.2.2.1.sv hk, h.2.2.2⟩
theorem RulesAt.keep {S : Nat → Prop} {wr wr' : World} {rs : List Rul} {cs : List Value} {k : Nat} (h : RulesAt S wr rs cs k) (hk : Kept (SV S wr) wr wr') : RulesAt S wr' rs cs k := fun i r hi hr => by
  obtain ⟨a, b, c, h1, h2⟩ := h i r hi hr
  exact ⟨a, b, c, h1, h2.keep hk⟩
/-- Cells laid from p on. -/
def setL : List Value → Nat → List Value → List Value
  | cs, _, [] => cs
  | cs, p, v :: r => setL (cs.set p v) (p + 1) r
theorem setL_len (cs : List Value) (p : Nat) (vs : List Value) : (setL cs p vs).length = cs.length := by
  induction vs generalizing cs p with
  | nil => rfl
  | cons v r ih => rw [setL, ih]; simp
theorem setL_far {cs : List Value} {p q : Nat} {vs : List Value} (h : q < p ∨ p + vs.length ≤ q) : (setL cs p vs)[q]? = cs[q]? := by
  induction vs generalizing cs p with
  | nil => rfl
  | cons v r ih =>
    simp at h
    rw [setL, ih (by omega), List.getElem?_set_ne (by omega)]
theorem setL_at {cs : List Value} {p j : Nat} {vs : List Value} {v : Value} (hp : p + vs.length ≤ cs.length) (h : vs[j]? = some v) : (setL cs p vs)[p + j]? = some v := by
  induction vs generalizing cs p j with
  | nil => simp at h
  | cons u r ih =>
    simp at hp
    cases j with
    | zero =>
      simp at h; subst h
      rw [Nat.add_zero, setL, setL_far (.inl (by omega)), List.getElem?_set_self (by omega)]
    | succ j =>
      rw [setL, show p + (j + 1) = p + 1 + j by omega]
      exact ih (by simp; omega) (by simpa using h)
theorem Ow.storedL {e k : Nat} {w : World} {base g n c : Nat} {cs : List Value} (h : Ow e k w base (some ⟨g, 0, none⟩) n c cs) (p : Nat) (vs : List Value) : Ow e k (w.setCells g p vs) base (some ⟨g, 0, none⟩) n c (setL cs p vs) := by
  induction vs generalizing w cs p with
  | nil => exact h
  | cons v r ih => exact ih (h.stored p v) (p + 1)
theorem setCells_other (w : World) (g p b : Nat) (vs : List Value) (h : b ≠ g) : (w.setCells g p vs).heap[b]? = w.heap[b]? := by
  induction vs generalizing w p with
  | nil => rfl
  | cons v r ih => exact (ih _ _).trans (Below.heap_setCell _ _ _ _ h)
theorem setCells_below {B : Nat} {w0 w : World} (hb : Below B w0 w) (g p : Nat) (vs : List Value) (h : B ≤ g) : Below B w0 (w.setCells g p vs) := by
  induction vs generalizing w p with
  | nil => exact hb
  | cons v r ih => exact ih (hb.setCell (p := ⟨g, p, none⟩) h v) (p + 1)
theorem Ow.there {e k : Nat} {w : World} {base g n c : Nat} {cs : List Value} (h : Ow e k w base (some ⟨g, 0, none⟩) n c cs) (p m : Nat) (hp : p + m ≤ n * k) : w.there g p m := fun j hj => by
  have hl := h.len
  refine ⟨?_, h.frozen (p + j)⟩
  rw [h.cell (List.getElem?_eq_getElem (show p + j < cs.length by omega))]; rfl
theorem stepStore {ops : Array Oper} {o : Oper} {a : Act} {K : Act → World → Prop} {Q : Exit → Act → World → Prop} {E : Prop} (hw : Region.wanted o (yielded ops a.tmps) = true) (ty : TypeId) (x y : Operand) (ho : o.op = .store ty x y)
    (w : World) (b p : Nat) (cells : Array Value) (hx : a.eval x = .pointer (some ⟨b, p, none⟩)) (hy : a.eval y = .agg cells)
    (ht : w.there b p cells.size) (hi : (Try.prog.info? ty).map (·.size) = some cells.size) (h1 : cells.all (·.oneCell') = true)
    (h : K (a.put o.dst undef) (w.setCells b p cells.toList)) : if Region.wanted o (yielded ops a.tmps) = true then Oper.wp Try.prog o a w K Q else E := by
  rw [if_pos hw]
  exact wp_store_mid ty x y ho b p cells hx hy ht hi h1 h

theorem rulesAt_next {S : Nat → Prop} {wr : World} {rs : List Rul} {cs : List Value} {k : Nat} {r : Rul} {a b c : Option Addr × Nat × Nat} (h : RulesAt S wr rs cs k) (hr : rs[k]? = some r) (hl : k * 6 + 6 ≤ cs.length) (hi : RuleIn S wr r a b c) :
    RulesAt S wr rs (setL cs (k * 6) (rc3 a b c)) (k + 1) := by
  intro i q hiq hq
  by_cases e : i = k
  · subst e
    rw [hr] at hq; injection hq with hq; subst hq
    exact ⟨a, b, c, fun j v hv' => setL_at hl hv', hi⟩
  · obtain ⟨a', b', c', h1, h2⟩ := h i q (by omega) hq
    refine ⟨a', b', c', fun j v hv' => ?_, h2⟩
    have hj : j < 6 := by have := (List.getElem?_eq_some_iff.1 hv').1; simpa [rc3] using this
    rw [setL_far (.inl (by omega))]
    exact h1 j v hv'
theorem below_drew {B : Nat} {a w : World} (h : Below B a w) : Below B a w.drew := ⟨h.os, h.tape, h.output, h.size, h.block⟩
theorem below_undrew {w w' : World} (h : Below w.drew.heap.size w.drew w') : Below w.heap.size w w' := ⟨h.os, h.tape, h.output, h.size, h.block⟩
theorem cell6 (w : World) (g p b j : Nat) (v0 v1 v2 v3 v4 v5 : Value) (h : b ≠ g) : ((((((w.setCell ⟨g, p, none⟩ v0).setCell ⟨g, p + 1, none⟩ v1).setCell ⟨g, p + 2, none⟩ v2).setCell ⟨g, p + 3, none⟩ v3).setCell ⟨g, p + 4, none⟩ v4).setCell ⟨g, p + 5, none⟩ v5).cell? ⟨b, j, none⟩ = w.cell? ⟨b, j, none⟩ := by
  have hn : ∀ (x : World) (q : Nat) (v : Value), (x.setCell ⟨g, q, none⟩ v).cell? ⟨b, j, none⟩ = x.cell? ⟨b, j, none⟩ := fun x q v => World.cell?_of_block (Below.heap_setCell x _ _ _ h)
  rw [hn, hn, hn, hn, hn, hn]
theorem keep6 {w : World} {g p b : Nat} {v0 v1 v2 v3 v4 v5 u0 u1 u2 : Value} (h : b ≠ g) (z0 : w.cell? ⟨b, 0, none⟩ = some u0) (z1 : w.cell? ⟨b, 1, none⟩ = some u1) (z2 : w.cell? ⟨b, 2, none⟩ = some u2) :
    ((((((w.setCell ⟨g, p, none⟩ v0).setCell ⟨g, p + 1, none⟩ v1).setCell ⟨g, p + 2, none⟩ v2).setCell ⟨g, p + 3, none⟩ v3).setCell ⟨g, p + 4, none⟩ v4).setCell ⟨g, p + 5, none⟩ v5).cell? ⟨b, 0, none⟩ = some u0 ∧
    ((((((w.setCell ⟨g, p, none⟩ v0).setCell ⟨g, p + 1, none⟩ v1).setCell ⟨g, p + 2, none⟩ v2).setCell ⟨g, p + 3, none⟩ v3).setCell ⟨g, p + 4, none⟩ v4).setCell ⟨g, p + 5, none⟩ v5).cell? ⟨b, 1, none⟩ = some u1 ∧
    ((((((w.setCell ⟨g, p, none⟩ v0).setCell ⟨g, p + 1, none⟩ v1).setCell ⟨g, p + 2, none⟩ v2).setCell ⟨g, p + 3, none⟩ v3).setCell ⟨g, p + 4, none⟩ v4).setCell ⟨g, p + 5, none⟩ v5).cell? ⟨b, 2, none⟩ = some u2 :=
  ⟨(cell6 w g p b 0 v0 v1 v2 v3 v4 v5 h).trans z0, (cell6 w g p b 1 v0 v1 v2 v3 v4 v5 h).trans z1, (cell6 w g p b 2 v0 v1 v2 v3 v4 v5 h).trans z2⟩
/-- Small enough for the sorting of sets. -/
def SmR (r : Rul) : Prop := (r.back.length ≤ 1000000 ∧ ∀ s ∈ r.back, s.length ≤ 1000000) ∧ (r.inn.length ≤ 1000000 ∧ ∀ s ∈ r.inn, s.length ≤ 1000000) ∧ (r.ahead.length ≤ 1000000 ∧ ∀ s ∈ r.ahead, s.length ≤ 1000000)

set_option maxRecDepth 100000 in
set_option maxHeartbeats 4000000 in
theorem sorted_c (B : Nat) (A : Option Addr) (n c : Nat) (lk : Lk) (w : World) (hB : B ≤ w.heap.size) (hA : RdR w (SB B w) A n lk.rules) (hn : n ≤ 1000000) (hsm : ∀ r ∈ lk.rules, SmR r) :
    Calls Try.prog 57 #[.agg #[.int .i64 lk.kind, .bool lk.ign, .slice A n c]] w fun e w' => ∃ A', e = .returned (.agg #[.int .i64 lk.kind, .bool lk.ign, .slice A' n n]) ∧ RdR w' (SB B w') A' n (lk.rules.map srtR) ∧ Below w.heap.size w w' := by
  obtain ⟨S, hSd⟩ : ∃ S, S = SB B w := ⟨_, rfl⟩
  have hS : ∀ b, S b → b < w.heap.size := fun b hb => by rw [hSd] at hb; exact hb.lt hB
  rw [← hSd] at hA
  have HSD := Lib.hid hSd
  have HL := Lib.hid hA.len
  have HSM := Lib.hid hsm; have HS := Lib.hid hS; clear hsm hSd hS
  go_enter Try.func57, Try.ntmps57
  have z1 := Bk.new w 44 #[.int .i64 lk.kind, .bool lk.ign, .slice A n c]
  have z2 := z1.alloc (.cells #[.int .i64 0, .bool false, .slice none 0 0] 44)
  have z3 := Bk.new (w.alloc (.cells #[.int .i64 lk.kind, .bool lk.ign, .slice A n c] 44)) 44 #[.int .i64 0, .bool false, .slice none 0 0]
  have bz := below_lit w _ (below_lit w _ (Below.refl _ _) (.cells #[.int .i64 lk.kind, .bool lk.ign, .slice A n c] 44)) (.cells #[.int .i64 0, .bool false, .slice none 0 0] 44)
  rw [World.size_alloc] at z3
  have HZ2 := Lib.hid z2; have HZ3 := Lib.hid z3; have HBZ := Lib.hid bz
  clear z1 z2 z3 bz
  go_wp2_with (refine mkG elt_rule rfl _ _ rfl _ w.heap.size n _ _ (by rfl) (by rfl) (by rfl) (by rfl) (by omega) (by simp; omega) ?_; intro w1 ho1 hb1 hlt1; have kx := HZ2.out.below hb1 (by simp; omega); have cx := kx.cell 2; simp only [List.getElem?_toArray, List.getElem?_cons_succ, List.getElem?_cons_zero] at cx)
  have kr := HZ3.out.below hb1 (by simp)
  have bw1 := below_call HBZ.out hb1
  simp only [World.size_alloc] at ho1 hlt1
  clear hb1 HZ2 HZ3 HBZ cx
  go_loopw [13] (fun i wr => ∃ (k : Nat) (cs : List Value), k ≤ n ∧ i = .int .i64 k ∧ Ow 48 6 wr w.heap.size (some ⟨w.heap.size + 1 + 1, 0, none⟩) n n cs ∧ RulesAt S wr lk.rules cs k ∧ Below w.heap.size w wr ∧ Bk wr w.heap.size 44 #[.int .i64 lk.kind, .bool lk.ign, .slice A n c] ∧ Bk wr (w.heap.size + 1) 44 #[.int .i64 0, .bool false, .slice none 0 0]) (fun i _ => n - (intOf i).toNat)
  case atStart => exact ⟨0, _, by omega, rfl, ho1, fun i r hi => by omega, bw1, kx, kr⟩
  case round =>
    clear ho1 hlt1 bw1 kx kr
    obtain ⟨k, cs, hk, rfl, hor, hru, hbr, kx, kr⟩ := hrel
    have hszr := hbr.size
    have hglt := (hor.lt _ _ _ rfl).2
    have kSw : Kept S w wr := fun b hb => hbr.block b (HS.out b hb)
    by_cases hlt : k < n
    · obtain ⟨r, hr⟩ := at_some lk.rules k (by have := HL.out; omega)
      have hAr : RdR wr S A n lk.rules := hA.mono (fun _ h => h) kSw
      obtain ⟨b, o, rfl, _, hc⟩ := hAr.pos (by omega)
      obtain ⟨cs1, he, hcc⟩ := hc k r hr
      obtain ⟨A1, n1, c1, A2, n2, c2, A3, n3, c3, A5, n5, c5, A7, n7, c7, rfl, r1, r2, r3, _, _, d1, d2, d3, _⟩ := he
      have L1 := Lib.hid r1.len; have L2 := Lib.hid r2.len; have L3 := Lib.hid r3.len
      have g0 := hcc 0 _ rfl
      have g1 := hcc 1 _ rfl
      have g2 := hcc 2 _ rfl
      have g3 := hcc 3 _ rfl
      have g4 := hcc 4 _ rfl
      have g5 := hcc 5 _ rfl
      rw [Nat.add_zero] at g0
      have SM := Lib.hid (HSM.out r (List.mem_of_getElem? hr))
      have HR := Lib.hid hr
      have R1 := Lib.hid r1; have R2 := Lib.hid r2; have R3 := Lib.hid r3
      clear hcc hc hr hAr r1 r2 r3
      have kz : (0 : Int) ≤ (k : Int) := by omega
      have kn : (k : Int) < (n : Int) := by omega
      have hC : ∀ (wx : World) (_ : Below wr.heap.size wr wx), (∀ b, S b → b < wx.heap.size) ∧ RdV wx S A1 n1 r.back ∧ RdV wx S A2 n2 r.inn ∧ RdV wx S A3 n3 r.ahead := by
        intro wx hx
        have kk : Kept S wr wx := fun b hb => hx.block b (by have := HS.out b hb; omega)
        exact ⟨fun b hb => by have := HS.out b hb; have := hx.size; omega, R1.out.mono (fun _ h => h) kk, R2.out.mono (fun _ h => h) kk, R3.out.mono (fun _ h => h) kk⟩
      have C1 := Lib.hid fun (wx : World) (hx : Below wr.heap.size wr wx) => sortedSets_c S A1 n1 c1 r.back wx (hC wx hx).1 (hC wx hx).2.1 (by have := SM.out.1.1; have := L1.out; omega) SM.out.1.2
      have C2 := Lib.hid fun (wx : World) (hx : Below wr.heap.size wr wx) => sortedSets_c S A2 n2 c2 r.inn wx (hC wx hx).1 (hC wx hx).2.2.1 (by have := SM.out.2.1.1; have := L2.out; omega) SM.out.2.1.2
      have C3 := Lib.hid fun (wx : World) (hx : Below wr.heap.size wr wx) => sortedSets_c S A3 n3 c3 r.ahead wx (hC wx hx).1 (hC wx hx).2.2.2 (by have := SM.out.2.2.1; have := L3.out; omega) SM.out.2.2.2
      have hcl : ∀ (wx : World) (_ : Ow 48 6 wx w.heap.size (some ⟨w.heap.size + 1 + 1, 0, none⟩) n n cs), ∃ v0 v1 v2 v3 v4 v5, wx.cell? ⟨w.heap.size + 1 + 1, k * 6, none⟩ = some v0 ∧ wx.cell? ⟨w.heap.size + 1 + 1, k * 6 + 1, none⟩ = some v1 ∧ wx.cell? ⟨w.heap.size + 1 + 1, k * 6 + 2, none⟩ = some v2 ∧ wx.cell? ⟨w.heap.size + 1 + 1, k * 6 + 3, none⟩ = some v3 ∧ wx.cell? ⟨w.heap.size + 1 + 1, k * 6 + 4, none⟩ = some v4 ∧ wx.cell? ⟨w.heap.size + 1 + 1, k * 6 + 5, none⟩ = some v5 := by
        intro wx hx
        have hl := hx.len
        exact ⟨_, _, _, _, _, _, hx.cell (List.getElem?_eq_getElem (show k * 6 < cs.length by omega)), hx.cell (List.getElem?_eq_getElem (show k * 6 + 1 < cs.length by omega)), hx.cell (List.getElem?_eq_getElem (show k * 6 + 2 < cs.length by omega)), hx.cell (List.getElem?_eq_getElem (show k * 6 + 3 < cs.length by omega)), hx.cell (List.getElem?_eq_getElem (show k * 6 + 4 < cs.length by omega)), hx.cell (List.getElem?_eq_getElem (show k * 6 + 5 < cs.length by omega))⟩
      have HCL := Lib.hid hcl
      have hneg : wr.heap.size ≠ w.heap.size + 1 + 1 := by omega
      clear hC hcl
      have hi6 : (Try.prog.info? 48).map (·.size) = some 6 := by kernel_rfl
      go_wp2
      generalize hwA : wr.alloc (.cells #[.slice A1 n1 c1, .slice A2 n2 c2, .slice A3 n3 c3, .slice A5 n5 c5, .slice A7 n7 c7, .int .i64 r.x] 48) = wA
      have qA : Bk wA wr.heap.size 48 #[.slice A1 n1 c1, .slice A2 n2 c2, .slice A3 n3 c3, .slice A5 n5 c5, .slice A7 n7 c7, .int .i64 r.x] := by rw [← hwA]; exact Bk.new _ _ _
      have bA : Below wr.heap.size wr wA := by rw [← hwA]; exact (Below.refl _ _).alloc (Nat.le_refl _) _
      have y0 : wA.cell? ⟨wr.heap.size, 0, none⟩ = some (.slice A1 n1 c1) := by have := qA.cell 0; simpa using this
      have y1 : wA.cell? ⟨wr.heap.size, 1, none⟩ = some (.slice A2 n2 c2) := by have := qA.cell 1; simpa using this
      have y2 : wA.cell? ⟨wr.heap.size, 2, none⟩ = some (.slice A3 n3 c3) := by have := qA.cell 2; simpa using this
      clear hwA g0 g1 g2 g3 g4 g5 qA
      go_region_held3 (fun w' => w'.cell? ⟨wr.heap.size, 0, none⟩ = some (.slice A1 n1 c1) ∧ w'.cell? ⟨wr.heap.size, 1, none⟩ = some (.slice A2 n2 c2) ∧ w'.cell? ⟨wr.heap.size, 2, none⟩ = some (.slice A3 n3 c3)) (first | (with_reducible exact ⟨z0, z1, z2⟩) | (with_reducible exact keep6 hneg z0 z1 z2) | go_keep) (first
        | (go_at_call 63; (with_reducible refine (C1.out _ ?_).mono ?_); exact below_drew bA; rintro e w5 ⟨A5', rfl, rd5, hb5⟩; have b5 := below_call bA (below_undrew hb5); have z0 := cell_call (w := wA) y0 (below_undrew hb5); have z1 := cell_call (w := wA) y1 (below_undrew hb5); have z2 := cell_call (w := wA) y2 (below_undrew hb5))
        | (go_at_call 63; (with_reducible refine (C2.out _ ?_).mono ?_); exact b5; rintro e w6 ⟨A6', rfl, rd6, hb6⟩; have b6 := below_call b5 hb6; have z0 := cell_call z0 hb6; have z1 := cell_call z1 hb6; have z2 := cell_call z2 hb6)
        | (go_at_call 63; (with_reducible refine (C3.out _ ?_).mono ?_); exact b6; rintro e w7 ⟨A7', rfl, rd7, hb7⟩; have b7 := below_call b6 hb7; have z0 := cell_call z0 hb7; have z1 := cell_call z1 hb7; have z2 := cell_call z2 hb7; have hor7 := hor.below b7 (Nat.le_refl _); obtain ⟨v0, v1, v2, v3, v4, v5, x0, x1, x2, x3, x4, x5⟩ := HCL.out w7 hor7; have f0 := hor7.frozen (k * 6); have f1 := hor7.frozen (k * 6 + 1); have f2 := hor7.frozen (k * 6 + 2); have f3 := hor7.frozen (k * 6 + 3); have f4 := hor7.frozen (k * 6 + 4); have f5 := hor7.frozen (k * 6 + 5)))
      have s5 := b5.size
      have s6 := b6.size
      have s7 := b7.size
      have hs6 := hb6.size
      have hs7 := hb7.size
      go_wp2
      go_roundw
      case rel =>
        have og := Ow.storedL hor7 (k * 6) (rc3 (A5', n1, n1) (A6', n2, n2) (A7', n3, n3))
        have hgr : ∀ (wx : World), (∃ cur, wx.heap[w.heap.size + 1 + 1]? = some (.cells cur 48 (0, 0))) → ∀ b, SV S wx b → b ≠ w.heap.size + 1 + 1 := by
          rintro wx ⟨cur, hh⟩ b hb e
          subst e
          rcases hb with hb | ⟨cs, t, fr, hb, ht⟩
          · have := HS.out _ hb; omega
          · rw [hb] at hh; injection hh with hh; injection hh with _ h2; subst h2; rcases ht with ht | ht <;> revert ht <;> decide
        have hoc : ∀ (wx : World), Below wr.heap.size wr wx → ∃ cur, wx.heap[w.heap.size + 1 + 1]? = some (.cells cur 48 (0, 0)) := fun wx hx => by
          obtain ⟨_, _, _, cur, hh⟩ := (hor.below hx (Nat.le_refl _)).blk _ rfl
          exact ⟨cur, hh⟩
        have kst : ∀ (vs : List Value) (b : Nat), b ≠ w.heap.size + 1 + 1 → (w7.setCells (w.heap.size + 1 + 1) (k * 6) vs).heap[b]? = w7.heap[b]? := fun vs b hb => setCells_other w7 _ _ b vs hb
        have k0 : Kept (SV S wr) wr (w7.setCells (w.heap.size + 1 + 1) (k * 6) (rc3 (A5', n1, n1) (A6', n2, n2) (A7', n3, n3))) := fun b hb =>
          (kst _ b (hgr wr (hoc wr (Below.refl _ _)) b hb)).trans (b7.block b (hb.lt HS.out hszr))
        have k5 : Kept (SV S w5) w5 (w7.setCells (w.heap.size + 1 + 1) (k * 6) (rc3 (A5', n1, n1) (A6', n2, n2) (A7', n3, n3))) := fun b hb => by
          have hl := hb.lt HS.out (by omega : w.heap.size ≤ w5.heap.size)
          exact (kst _ b (hgr w5 (hoc w5 b5) b hb)).trans ((hb7.block b (by omega)).trans (hb6.block b hl))
        have k6 : Kept (SV S w6) w6 (w7.setCells (w.heap.size + 1 + 1) (k * 6) (rc3 (A5', n1, n1) (A6', n2, n2) (A7', n3, n3))) := fun b hb => by
          have hl := hb.lt HS.out (by omega : w.heap.size ≤ w6.heap.size)
          exact (kst _ b (hgr w6 (hoc w6 b6) b hb)).trans (hb7.block b hl)
        have k7 : Kept (SV S w7) w7 (w7.setCells (w.heap.size + 1 + 1) (k * 6) (rc3 (A5', n1, n1) (A6', n2, n2) (A7', n3, n3))) := fun b hb =>
          kst _ b (hgr w7 (hoc w7 b7) b hb)
        have hRI : RuleIn S (w7.setCells (w.heap.size + 1 + 1) (k * 6) (rc3 (A5', n1, n1) (A6', n2, n2) (A7', n3, n3))) r (A5', n1, n1) (A6', n2, n2) (A7', n3, n3) :=
          ⟨rd5.sv k5, rd6.sv k6, rd7.sv k7, ⟨Nat.le_refl _, Nat.le_trans d1.1 d1.2⟩, ⟨Nat.le_refl _, Nat.le_trans d2.1 d2.2⟩, ⟨Nat.le_refl _, Nat.le_trans d3.1 d3.2⟩⟩
        have hlen := hor.len
        have hnx := rulesAt_next (hru.keep k0) HR.out (by omega) hRI
        have bfin := setCells_below (hbr.trans (b7.mono hszr)) (w.heap.size + 1 + 1) (k * 6) (rc3 (A5', n1, n1) (A6', n2, n2) (A7', n3, n3)) (by omega)
        have kx7 : Bk (w7.setCells (w.heap.size + 1 + 1) (k * 6) (rc3 (A5', n1, n1) (A6', n2, n2) (A7', n3, n3))) w.heap.size 44 #[.int .i64 lk.kind, .bool lk.ign, .slice (some ⟨b, o, none⟩) n c] := (kst _ _ (by omega)).trans (kx.below b7 (by omega))
        have kr7 : Bk (w7.setCells (w.heap.size + 1 + 1) (k * 6) (rc3 (A5', n1, n1) (A6', n2, n2) (A7', n3, n3))) (w.heap.size + 1) 44 #[.int .i64 0, .bool false, .slice none 0 0] := (kst _ _ (by omega)).trans (kr.below b7 (by omega))
        exact ⟨k + 1, _, by omega, by go_num, og, hnx, bfin, kx7, kr7⟩
      case measure => simp [intOf]; omega
    · have cx0 : wr.cell? ⟨w.heap.size, 0, none⟩ = some (.int .i64 lk.kind) := by have := kx.cell 0; simpa using this
      have cx1 : wr.cell? ⟨w.heap.size, 1, none⟩ = some (.bool lk.ign) := by have := kx.cell 1; simpa using this
      have r0 : wr.cell? ⟨w.heap.size + 1, 0, none⟩ = some (.int .i64 0) := by have := kr.cell 0; simpa using this
      have r1 : wr.cell? ⟨w.heap.size + 1, 1, none⟩ = some (.bool false) := by have := kr.cell 1; simpa using this
      have r2 : wr.cell? ⟨w.heap.size + 1, 2, none⟩ = some (.slice none 0 0) := by have := kr.cell 2; simpa using this
      have f0 := kr.frozen 0
      have f1 := kr.frozen 1
      have f2 := kr.frozen 2
      go_wp2
      have kf := ((kr.set_ 0 (.int .i64 lk.kind)).set_ 1 (.bool lk.ign)).set_ 2 (.slice (some ⟨w.heap.size + 1 + 1, 0, none⟩) n n)
      have bf := ((hbr.setCell (p := ⟨w.heap.size + 1, 0, none⟩) (by dsimp only; omega) (.int .i64 lk.kind)).setCell (p := ⟨w.heap.size + 1, 1, none⟩) (by dsimp only; omega) (.bool lk.ign)).setCell (p := ⟨w.heap.size + 1, 2, none⟩) (by dsimp only; omega) (.slice (some ⟨w.heap.size + 1 + 1, 0, none⟩) n n)
      have of := ((hor.setOther (p := ⟨w.heap.size + 1, 0, none⟩) (fun b e => by injection e with e; injection e with e; dsimp only; omega) (.int .i64 lk.kind)).setOther (p := ⟨w.heap.size + 1, 1, none⟩) (fun b e => by injection e with e; injection e with e; dsimp only; omega) (.bool lk.ign)).setOther (p := ⟨w.heap.size + 1, 2, none⟩) (fun b e => by injection e with e; injection e with e; dsimp only; omega) (.slice (some ⟨w.heap.size + 1 + 1, 0, none⟩) n n)
      have kp : Kept (SV S wr) wr (((wr.setCell ⟨w.heap.size + 1, 0, none⟩ (.int .i64 lk.kind)).setCell ⟨w.heap.size + 1, 1, none⟩ (.bool lk.ign)).setCell ⟨w.heap.size + 1, 2, none⟩ (.slice (some ⟨w.heap.size + 1 + 1, 0, none⟩) n n)) := fun b hb => by
        have hne : b ≠ w.heap.size + 1 := by
          intro e
          subst e
          rcases hb with hb | ⟨cs, t, fr, hb, ht⟩
          · have := HS.out _ hb; omega
          · unfold Bk at kr; rw [hb] at kr; injection kr with kr; injection kr with _ h2; subst h2; rcases ht with ht | ht <;> revert ht <;> decide
        rw [Below.heap_setCell _ _ _ _ hne, Below.heap_setCell _ _ _ _ hne, Below.heap_setCell _ _ _ _ hne]
      have hru2 := hru.keep kp
      generalize (((wr.setCell ⟨w.heap.size + 1, 0, none⟩ (.int .i64 lk.kind)).setCell ⟨w.heap.size + 1, 1, none⟩ (.bool lk.ign)).setCell ⟨w.heap.size + 1, 2, none⟩ (.slice (some ⟨w.heap.size + 1 + 1, 0, none⟩) n n)) = wf at *
      have e0 : wf.cell? ⟨w.heap.size + 1, 0, none⟩ = some (.int .i64 lk.kind) := by have := kf.cell 0; simpa using this
      have e1 : wf.cell? ⟨w.heap.size + 1, 1, none⟩ = some (.bool lk.ign) := by have := kf.cell 1; simpa using this
      have e2 : wf.cell? ⟨w.heap.size + 1, 2, none⟩ = some (.slice (some ⟨w.heap.size + 1 + 1, 0, none⟩) n n) := by have := kf.cell 2; simpa using this
      refine bodyPost_ret (v := .agg #[.int .i64 lk.kind, .bool lk.ign, .slice (some ⟨w.heap.size + 1 + 1, 0, none⟩) n n]) (by simp [results, Try.results57, go_sem, e0, e1, e2]) rfl ⟨_, rfl, ?_, bf⟩
      refine ⟨by simp [HL.out], fun h0 => ⟨w.heap.size + 1 + 1, 0, rfl, ?_, fun i x hx => ?_⟩⟩
      · obtain ⟨_, _, _, cur, hh⟩ := of.blk _ rfl
        exact .inr ⟨cur, 48, _, hh, by decide, by decide⟩
      · rw [List.getElem?_map] at hx
        obtain ⟨r, hr1, rfl⟩ := Option.map_eq_some_iff.1 hx
        obtain ⟨a, b, c', q1, q2, q3, q4, q5, q6, q7⟩ := hru2 i r (by have := (List.getElem?_eq_some_iff.1 hr1).1; have := HL.out; omega) hr1
        have up : ∀ b, SV S wf b → SB B wf b := fun b hb => by rw [HSD.out] at hb; exact hb.sb bf
        refine ⟨rc3 a b c', ⟨a.1, a.2.1, a.2.2, b.1, b.2.1, b.2.2, c'.1, c'.2.1, c'.2.2, none, 0, 0, none, 0, 0, rfl, q2.mono up (Kept.refl _ _), q3.mono up (Kept.refl _ _), q4.mono up (Kept.refl _ _), SlE.nil, SlE.nil, q5, q6, q7, ⟨by omega, by omega⟩, ⟨by omega, by omega⟩⟩, fun j v hv' => ?_⟩
        rw [Nat.zero_add]
        exact of.cell (q1 j v hv')

end Go.Proofs.Ytkoocipagndclaa
