/- Walks: the document's does. -/
import Derived.Test.YtgcmedkaadagmaaDoorTk
import Derived.Test.YtgcmedkaadagmaaDoorX6
namespace Go.Proofs.YtgcmedkaadagmaaDoor
open Go.RowKit Go.Shelf Go.Maps

theorem elt_dpair : ElT 191 190 4 48 (.agg #[.int .i64 0, .slice none 0 0, .int .i64 0, .int .u64 0]) := ⟨Tryd.underlying191, by kernel_rfl, rfl, by decide, by decide⟩
/-- A pair's four cells. -/
def EPr (w : World) (S : Nat → Prop) (cs : List Value) (x : DS × Nat) : Prop := ∃ A n c, cs = [.int .i64 (x.1.1.1 : Int), .slice A n c, .int .i64 x.1.2, .int .u64 (x.2 : Int)] ∧ Rd w S A n (gls x.1.1.2) ∧ Hd n c
theorem em_pr : EMono 4 EPr := ⟨fun ⟨A, n, c, e, h1, h2⟩ hS hk => ⟨A, n, c, e, h1.mono hS hk, h2⟩, fun ⟨_, _, _, e, _⟩ => by rw [e]; rfl, by omega⟩
structure PSt (w W : World) (L : Nat) (LC : Array Value) (D : Nat → Prop) (A : Option Addr) (n c : Nat) (css : List (List Value)) (ps : List (DS × Nat)) : Prop where
 ma : MkG 190 4 EPr w W D A n c css ps
 kL : Bk W L 55 LC
section
variable {w W W2 W4 : World} {L : Nat} {LC : Array Value} {D : Nat → Prop} {A A' : Option Addr} {n c c' : Nat} {css : List (List Value)} {ps : List (DS × Nat)}
theorem PSt.bl (h : PSt w W L LC D A n c css ps) : Below w.heap.size w W := h.ma.bl
theorem PSt.call (h : PSt w W L LC D A n c css ps) (hb : Below W.heap.size W W2) : PSt w W2 L LC D A n c css ps := ⟨h.ma.call em_pr hb, h.kL.below hb h.kL.lt⟩
theorem PSt.len (h : PSt w W L LC D A n c css ps) : n = ps.length := by
 have h1 := h.ma.ow.len
 have h2 := h.ma.rw.1
 rw [flat_len h.ma.rw.2.1] at h1; omega
theorem PSt.at (h : PSt w W L LC D A n c css ps) {i : Nat} {x : DS × Nat} (hx : ps[i]? = some x) : ∃ ga B m d, A = some ⟨ga, 0, none⟩ ∧ W.cell? ⟨ga, i * 4, none⟩ = some (.int .i64 (x.1.1.1 : Int)) ∧ W.cell? ⟨ga, i * 4 + 1, none⟩ = some (.slice B m d) ∧ W.cell? ⟨ga, i * 4 + 2, none⟩ = some (.int .i64 x.1.2) ∧ W.cell? ⟨ga, i * 4 + 3, none⟩ = some (.int .u64 (x.2 : Int)) ∧ ESt W (lo W.heap.size) [.int .i64 (x.1.1.1 : Int), .slice B m d] x.1.1 := by
 obtain ⟨cs, h1, ⟨B, m, d, rfl, h3, h4⟩, _⟩ := h.ma.rw.at hx
 have hi := (List.getElem?_eq_some_iff.1 hx).1
 have hn := h.len
 obtain ⟨ga, e, _, _⟩ := h.ma.ow.form (by omega)
 have hc := h.ma.ow
 rw [e] at hc
 have y0 := hc.cell (flat_at h.ma.rw.2.1 h1 (j := 0) rfl)
 have y1 := hc.cell (flat_at h.ma.rw.2.1 h1 (j := 1) rfl)
 have y2 := hc.cell (flat_at h.ma.rw.2.1 h1 (j := 2) rfl)
 have y3 := hc.cell (flat_at h.ma.rw.2.1 h1 (j := 3) rfl)
 exact ⟨ga, B, m, d, e, y0, y1, y2, y3, B, m, d, rfl, h3.mono (fun b hb => (h.ma.dl b hb).2.1) (Kept.refl _ _), h4⟩
theorem PSt.push (h : PSt w W L LC D A n c css ps) (hb : Below W.heap.size W W2) {D2 : Nat → Prop} (hD : ∀ b, D2 b → W.heap.size ≤ b ∧ b < W2.heap.size) {cs : List Value} {q : DS × Nat} (hr : EPr W2 D2 cs q) {o : Obj} (ho : Ow 190 4 W4 w.heap.size A' (n + 1) c' (css.flatten ++ cs)) (hg : (W2.alloc o).grownBy W4 (A.map (·.block))) (hb4 : Below w.heap.size (W2.alloc o) W4) (hat : A'.map (·.block) = A.map (·.block) ∨ A'.map (·.block) = some (W2.alloc o).heap.size) :
  PSt w W4 L LC (fun b => D b ∨ D2 b) A' (n + 1) c' (css ++ [cs]) (ps ++ [q]) := by
 have h2 := h.call (below_lit _ _ hb o)
 exact ⟨h.ma.push em_pr hb hD hr ho hg hb4 hat, h2.kL.grown hg (h2.kL.ne_own (by decide) h2.ma.ow)⟩
end
theorem glyL_succ (n : Nat) : glyL (n + 1) = glyL n ++ [(n : Int)] := by unfold glyL; rw [List.range_succ]; simp
theorem glyL_sub {m n : Nat} (h : m ≤ n) : ∀ g ∈ glyL m, g ∈ glyL n := fun g hg => by
 rw [glyL_mem] at hg ⊢; omega
/-- What is known of a pair that was met. -/
structure PGood (back : Bool) (rs : List Rul) (x : DS × Nat) : Prop where
 s : GoodS back rs x.1.1
 m : x.1.1.1 ≤ 100
 a : -1 ≤ x.1.2
 b : x.2 < 18446744073709551616
theorem normD_good {back : Bool} {rs : List Rul} {s : Nat × List Nat} {g : Int} (hs : SmB rs) (h : GoodS back rs s) (hm : s.1 ≤ 100) : GoodS back rs (normD (behindD (rowsD back rs) s g)) ∧ (normD (behindD (rowsD back rs) s g)).1 ≤ 100 := by
 unfold normD
 split
 ·exact ⟨⟨(fun i hi => by cases hi), List.Pairwise.nil, by show 0 ≤ 1000; omega⟩, by show 0 ≤ 100; omega⟩
 ·rename_i hne
  exact ⟨behindD_good h _ (by omega), behindD_met h hs hne⟩
theorem mem_take_succ {α : Type} {l : List α} {k : Nat} {x y : α} (h : l[k]? = some x) : y ∈ l.take (k + 1) ↔ y ∈ l.take k ∨ x = y := by
 rw [List.take_add_one, h]
 simp [eq_comm]
/-- What the document's does leaves. -/
def DDoesR (w : World) (back : Bool) (rs : List Rul) (gn : Nat) (acls : List Int) (tab : List (List Int)) (ends : List Nat) (e : Ending) (w' : World) : Prop := ∃ b : Bool, e = .returned (.bool b) ∧ (b = true ↔ HalfOK (rowsF (kindF back) rs) (clsL rs gn) (0, hvF (kindF back) rs rs.length) acls tab ends gn) ∧ Below w.heap.size w w'
/-- Four cells stored. -/
def store4 (W : World) (g : Nat) (a b c d : Value) : World := (((W.setCell ⟨g, 0, none⟩ a).setCell ⟨g, 1, none⟩ b).setCell ⟨g, 2, none⟩ c).setCell ⟨g, 3, none⟩ d
theorem store4_bk {W : World} {g t : Nat} {a0 b0 c0 d0 : Value} (h : Bk W g t #[a0, b0, c0, d0]) (a b c d : Value) : Bk (store4 W g a b c d) g t #[a, b, c, d] := by
 have h0 : Bk (W.setCell ⟨g, 0, none⟩ a) g t #[a, b0, c0, d0] := h.set_ 0 a
 have h1 : Bk ((W.setCell ⟨g, 0, none⟩ a).setCell ⟨g, 1, none⟩ b) g t #[a, b, c0, d0] := h0.set_ 1 b
 have h2 : Bk (((W.setCell ⟨g, 0, none⟩ a).setCell ⟨g, 1, none⟩ b).setCell ⟨g, 2, none⟩ c) g t #[a, b, c, d0] := h1.set_ 2 c
 exact h2.set_ 3 d
theorem store4_far (W : World) (g : Nat) (a b c d : Value) : (∀ x, x ≠ g → (store4 W g a b c d).heap[x]? = W.heap[x]?) ∧ (store4 W g a b c d).heap.size = W.heap.size := by
 refine ⟨fun x hx => ?_, by unfold store4; simp⟩
 unfold store4
 rw [Below.heap_setCell _ ⟨g, 3, none⟩ _ x hx, Below.heap_setCell _ ⟨g, 2, none⟩ _ x hx, Below.heap_setCell _ ⟨g, 1, none⟩ _ x hx, Below.heap_setCell _ ⟨g, 0, none⟩ _ x hx]
theorem store4_below {B : Nat} {w W : World} {g : Nat} (h : Below B w W) (hg : B ≤ g) (a b c d : Value) : Below B w (store4 W g a b c d) := (((h.setCell (p := ⟨g, 0, none⟩) hg a).setCell (p := ⟨g, 1, none⟩) hg b).setCell (p := ⟨g, 2, none⟩) hg c).setCell (p := ⟨g, 3, none⟩) hg d
theorem stepT_eq {back : Bool} {rs : List Rul} {acls : List Int} {tab : List (List Int)} (p : DS × Nat) (g : Int) {q : Nat × List Nat} {at' : Int} {ey : Nat} (h1 : behindD (rowsD back rs) p.1.1 g = q) (h2 : stepA acls tab p.1.2 g = at') (h3 : endsD (rowsD back rs) q = ey) : stepT (stepD (rowsD back rs) acls tab) (dueD (rowsD back rs)) p g = ((normD q, at'), p.2 ||| ey) := by
 unfold stepT stepD dueD
 dsimp only
 rw [h1, h2, endsD_norm, h3]

set_option maxRecDepth 100000 in
set_option maxHeartbeats 8000000 in
theorem ddoes_c (cs : List Value) (lk : Lk) (back : Bool) (r : RV) (acls : List Int) (tab : List (List Int)) (ends : List Nat) (gn : Nat) (x : List (List Int) × List (Nat × Nat)) (w : World) (h : ELk w (lo w.heap.size) cs lk) (hs : SmB lk.rules) (hn3 : lk.rules.length ≤ 3) (hR : IsR w (lo w.heap.size) r acls tab ends) (htab : tab.length ≤ 20000) (hgn : gn ≤ 65536) (hx : halfL (kindF back) lk.rules gn = some x) :
  Calls Tryd.prog 52 #[.agg cs.toArray, .bool back, .slice r.ca r.cn r.cc, .slice r.ta r.tn r.tc, .slice r.ea r.en r.ec, .int .i64 (gn : Int)] w (DDoesR w back lk.rules gn acls tab ends) := by
 obtain ⟨qa, qn, qc, rfl, hR0, hq⟩ := h
 obtain ⟨rs, hrs⟩ : ∃ rs, lk.rules = rs := ⟨_, rfl⟩
 have HEL := Lib.hid (show ELk w (lo w.heap.size) [.int .i64 lk.kind, .bool lk.ign, .slice qa qn qc] lk from ⟨qa, qn, qc, rfl, hR0, hq⟩)
 rw [hrs] at hs hn3 hx ⊢
 have HRS := Lib.hid hrs
 have HSM := Lib.hid hs
 have HRR := Lib.hid hR
 have HAG := Lib.hid (show ∀ b : Bool, (b = true ↔ Agr (stepD (rowsD back rs) acls tab) (dueD (rowsD back rs)) (bitD ends) (glyL gn) (firstD back rs, 0)) → (b = true ↔ HalfOK (rowsF (kindF back) rs) (clsL rs gn) (0, hvF (kindF back) rs rs.length) acls tab ends gn) from fun b h => h.trans doc_agr)
 have HFEW := Lib.hid (show ∀ (all : List (DS × Nat)) (i : Nat) (dn : List Int), DoI (stepD (rowsD back rs) acls tab) (dueD (rowsD back rs)) (bitD ends) (glyL gn) (firstD back rs, 0) all i dn → all.length ≤ 4000000000 from fun all i dn h => by
  have h1 := doc_few (half_ok hx) h
  have h2 := (half_ok hx).mx
  have h3 : 2 ^ rs.length ≤ 2 ^ 3 := Nat.pow_le_pow_right (by omega) hn3
  have h4 : (x.2.length + 1) * (tab.length + 2) ≤ 20001 * 20002 := Nat.mul_le_mul (by omega) (by omega)
  have h5 := Nat.mul_le_mul h4 h3
  omega)
 have HBL := Lib.hid hR.bits_lt
 have b1 : Below w.heap.size w (w.alloc (.cells #[.int .i64 lk.kind, .bool lk.ign, .slice qa qn qc] 55)) := below_lit _ _ (Below.refl _ _) _
 have k1 := Bk.new w 55 #[.int .i64 lk.kind, .bool lk.ign, .slice qa qn qc]
 have HF := Lib.hid (dFirst_c _ lk back (w.alloc (.cells #[.int .i64 lk.kind, .bool lk.ign, .slice qa qn qc] 55)) (elk_mono HEL.out (lo_mono b1.size) (kept_below b1)) (by rw [hrs]; exact hs))
 rw [hrs] at HF
 have x0 := box_cells k1 0 rfl
 have x1 := box_cells k1 1 rfl
 have x2 := box_cells k1 2 rfl
 clear hR0 hq hrs hs hx hR hn3
 go_enter Tryd.func52, Tryd.ntmps52
 go_wp2_with fail
 refine HF.out.mono ?_
 rintro e w2 ⟨A, n, c, rfl, hrd, hhd, bn⟩
 obtain ⟨g, hg⟩ : ∃ g, w.heap.size = g := ⟨_, rfl⟩
 have HG := Lib.hid hg
 obtain ⟨w1, hw1⟩ : ∃ w1, w.alloc (.cells #[.int .i64 lk.kind, .bool lk.ign, .slice qa qn qc] 55) = w1 := ⟨_, rfl⟩
 have hg1 : w1.heap.size = g + 1 := by rw [← hw1, World.size_alloc, hg]
 rw [hw1] at b1 k1 bn hrd
 rw [hg] at k1 ⊢
 clear HF x0 x1 x2 hg hw1
 have k2 := k1.below bn k1.lt
 have b2 := below_call b1 bn
 obtain ⟨p0, hp0⟩ : ∃ p, firstD back rs = p := ⟨_, rfl⟩
 have HP0 := Lib.hid hp0
 have HGD0 := Lib.hid (show GoodS back rs p0 ∧ p0.1 ≤ 100 by rw [← hp0]; exact ⟨firstD_good back rs, by unfold firstD; exact Nat.zero_le _⟩)
 rw [hp0] at hrd ⊢
 clear hp0
 go_upto_region 2 with fail
 have bS := below_lit w2 w2 (Below.refl _ _) (.cells #[.int .i64 (p0.1 : Int), .slice A n c] 183)
 have kS := Bk.new w2 183 #[.int .i64 (p0.1 : Int), .slice A n c]
 have k3 := k2.below bS k2.lt
 have b3 := below_call b2 bS
 have hrd3 : Rd (w2.alloc (.cells #[.int .i64 (p0.1 : Int), .slice A n c] 183)) (fun b => w1.heap.size ≤ b ∧ b < w2.heap.size) A n (gls p0.2) := hrd.mono (fun b hb => hb) (fun b hb => bS.block b hb.2)
 obtain ⟨w3, hw3⟩ : ∃ w3, w2.alloc (.cells #[.int .i64 (p0.1 : Int), .slice A n c] 183) = w3 := ⟨_, rfl⟩
 have hs3 : w3.heap.size = w2.heap.size + 1 := by rw [← hw3, World.size_alloc]
 obtain ⟨gs, hgs⟩ : ∃ gs, w2.heap.size = gs := ⟨_, rfl⟩
 have hg12 := bn.size
 rw [hw3] at kS k3 b3 hrd3
 rw [hw3]
 rw [hgs] at kS hs3 hrd3 hg12
 rw [hgs]
 clear hw3 k1 k2 b1 b2 bn hrd bS hgs
 have HEN := Lib.hid fun (W : World) (bW : Below w3.heap.size w3 W) => dEnds_c _ lk back [.int .i64 (p0.1 : Int), .slice A n c] p0 W (elk_mono HEL.out (lo_mono (below_call b3 bW).size) (kept_below (below_call b3 bW))) (by rw [HRS.out]; exact HSM.out) ⟨A, n, c, rfl, hrd3.mono (fun b hb => by have h1 := bW.size; show b < W.heap.size; have := hb.2; omega) (fun b hb => bW.block b (by have := hb.2; omega)), hhd⟩ (by rw [HRS.out]; exact HGD0.out.1)
 rw [HRS.out] at HEN
 obtain ⟨e0, he0⟩ : ∃ y, endsD (rowsD back rs) p0 = y := ⟨_, rfl⟩
 rw [he0] at HEN
 have HE0 := Lib.hid he0
 have he064 : e0 < 18446744073709551616 := by rw [← he0, endN_all back rs p0 (Nat.le_refl _)]; exact endN_lt HGD0.out.1 HSM.out.n _
 have x0 := box_cells k3 0 rfl
 have x1 := box_cells k3 1 rfl
 have x2 := box_cells k3 2 rfl
 have z0 := box_cells kS 0 rfl
 have z1 := box_cells kS 1 rfl
 clear he0
 have HS := Lib.hid fun (W : World) (bW : Below w3.heap.size w3 W) => (show W.cell? ⟨g, 0, none⟩ = some (.int .i64 lk.kind) ∧ W.cell? ⟨g, 1, none⟩ = some (.bool lk.ign) ∧ W.cell? ⟨g, 2, none⟩ = some (.slice qa qn qc) ∧ W.cell? ⟨gs, 0, none⟩ = some (.int .i64 (p0.1 : Int)) ∧ W.cell? ⟨gs, 1, none⟩ = some (.slice A n c) from ⟨cell_call x0 bW, cell_call x1 bW, cell_call x2 bW, cell_call z0 bW, cell_call z1 bW⟩)
 have bb := Below.refl w3.heap.size w3
 refine wp_region_held_drew (S := fun w' => w'.cell? ⟨g, 0, none⟩ = some (.int .i64 lk.kind) ∧ w'.cell? ⟨g, 1, none⟩ = some (.bool lk.ign) ∧ w'.cell? ⟨g, 2, none⟩ = some (.slice qa qn qc) ∧ w'.cell? ⟨gs, 0, none⟩ = some (.int .i64 (p0.1 : Int)) ∧ w'.cell? ⟨gs, 1, none⟩ = some (.slice A n c)) (by kernel_rfl) ?_ (fun hHeld => ?_)
 ·exact HS.out _ (below_drewN bb 1)
 replace bb := below_drewN bb 1
 change Below _ _ w3.drew at bb
 generalize hw0 : w3.drew = W0 at hHeld bb ⊢
 clear hw0
 refine tkB 0 (v := ?_) (by assumption) ?_ ?_
 rotate_left 1
 ·intro w hSw; (try dsimp only at hSw); go_simp; try with_reducible rfl
 refine tkB 1 (v := ?_) (by assumption) ?_ ?_
 rotate_left 1
 ·intro w hSw; (try dsimp only at hSw); go_simp; try with_reducible rfl
 refine tkB 2 (v := ?_) (by assumption) ?_ ?_
 rotate_left 1
 ·intro w hSw; (try dsimp only at hSw); go_simp; try with_reducible rfl
 refine tkB 3 (v := ?_) (by assumption) ?_ ?_
 rotate_left 1
 ·intro w hSw; (try dsimp only at hSw); go_simp; try with_reducible rfl
 refine wpAnyH_ready (rs := [4]) (by kernel_rfl) (by simp) ?_
 refine AllReadyH.cons (by simp only [List.getElem?_toArray]; rfl) (fun K hK => ?_) AllReadyH.nil
 refine wanted_pos (by kernel_rfl) ?_
 go_simp
 clear hHeld
 go_at_call 78
 (with_reducible refine (HEN.out _ bb).mono ?_)
 rintro e V1 ⟨rfl, bn⟩
 go_wp2_with fail
 refine hK.out _ _ ?_ (fun hHeld => ?_)
 ·exact HS.out _ (bb.trans (bn.mono bb.size))
 clear hK K
 try conv => arg 8; simp only [Act.put, List.setIfInBounds_toArray, List.set_cons_zero, List.set_cons_succ]
 replace bb := bb.trans (bn.mono bb.size)
 clear bn
 refine tkB 5 (v := ?_) (by assumption) ?_ ?_
 rotate_left 1
 ·intro w hSw; (try dsimp only at hSw); go_simp; try with_reducible rfl
 refine wpAnyH_ready (rs := [6]) (by kernel_rfl) (by simp) ?_
 refine AllReadyH.cons (by simp only [List.getElem?_toArray]; rfl) (fun K hK => ?_) AllReadyH.nil
 refine wanted_pos (by kernel_rfl) ?_
 go_simp
 clear hHeld
 refine hK.out _ _ ?_ (fun hHeld => ?_)
 ·exact HS.out _ (below_lit _ _ bb _)
 clear hK K
 try conv => arg 8; simp only [Act.put, List.setIfInBounds_toArray, List.set_cons_zero, List.set_cons_succ]
 refine tkB 7 (v := ?_) (by assumption) ?_ ?_
 rotate_left 1
 ·intro w hSw; (try dsimp only at hSw); go_simp; try with_reducible rfl
 refine wpAnyH_done (by kernel_rfl) ?_ _

 have b4 := below_call b3 bb
 have k4 := k3.below bb k3.lt
 have bl5 := below_lit V1 V1 (Below.refl _ _) (.cells #[.int .i64 (p0.1 : Int), .slice A n c, .int .i64 0, .int .u64 (e0 : Int)] 190)
 have hpst : PSt w (V1.alloc (.cells #[.int .i64 (p0.1 : Int), .slice A n c, .int .i64 0, .int .u64 (e0 : Int)] 190)) g #[.int .i64 lk.kind, .bool lk.ign, .slice qa qn qc] (fun b => w1.heap.size ≤ b ∧ b < gs) (some ⟨V1.heap.size, 0, none⟩) 1 1 [[.int .i64 (p0.1 : Int), .slice A n c, .int .i64 0, .int .u64 (e0 : Int)]] [((p0, 0), e0)] := by
  have hv := bb.size
  have hv4 := b4.size
  have hgw := HG.out
  refine ⟨⟨Ow.new1 190 4 V1 w.heap.size [.int .i64 (p0.1 : Int), .slice A n c, .int .i64 0, .int .u64 (e0 : Int)] rfl hv4, RowOf.one (show EPr _ _ _ ((p0, 0), e0) from ⟨A, n, c, rfl, hrd3.mono (fun b hb => hb) (fun b hb => (bl5.block b (by have := hb.2; omega)).trans (bb.block b (by have := hb.2; omega))), hhd⟩) rfl, fun b hb => ⟨by have := hb.1; omega, by rw [World.size_alloc]; have := hb.2; omega, by intro e; injection e with e; dsimp only at e; have := hb.2; omega⟩, below_call b4 bl5⟩, k4.below bl5 k4.lt⟩
 obtain ⟨w4, hw4⟩ : ∃ w4, V1.alloc (.cells #[.int .i64 (p0.1 : Int), .slice A n c, .int .i64 0, .int .u64 (e0 : Int)] 190) = w4 := ⟨_, rfl⟩
 obtain ⟨ga, hga⟩ : ∃ ga, V1.heap.size = ga := ⟨_, rfl⟩
 rw [hw4, hga] at hpst
 rw [hw4, hga]
 clear hw4 hga bl5 b4 k4 b3 k3 kS hrd3 hhd HEN x0 x1 x2 z0 z1 HS hHeld bb hs3 hg1 hg12
 have y3 : w4.cell? ⟨ga, 3, none⟩ = some (.int .u64 (e0 : Int)) := by
  obtain ⟨ga', B, m, d, e, _, _, _, h3, _⟩ := hpst.at (i := 0) rfl
  injection e with e; injection e with e
  subst e
  simpa using h3
 have HBI := Lib.hid fun (W : World) (bW : Below w4.heap.size w4 W) => dbits_c r.ea r.en r.ec ends 0 W (HRR.out.call (below_call hpst.bl bW)).e HRR.out.he
 obtain ⟨bt, hbt⟩ : ∃ b, bitsA ends 0 = b := ⟨_, rfl⟩
 have hbt64 : bt < 18446744073709551616 := by rw [← hbt]; exact HBL.out 0
 rw [hbt] at HBI
 have HBT := Lib.hid hbt
 have HX0 := Lib.hid (show (dueD (rowsD back rs)) (firstD back rs, 0) = e0 ∧ (bitD ends) (firstD back rs, 0) = bt from ⟨by show endsD (rowsD back rs) (firstD back rs) = e0; rw [HP0.out]; exact HE0.out, HBT.out⟩)
 have HPS := Lib.hid hpst
 have h10 : (0 : Int) < ((1 : Nat) : Int) := by omega
 clear hbt hpst
 go_upto_region 3 with fail
 have HS := Lib.hid fun (W : World) (bW : Below w4.heap.size w4 W) => (show W.cell? ⟨ga, 3, none⟩ = some (.int .u64 (e0 : Int)) from (cell_call y3 bW))
 have bb := Below.refl w4.heap.size w4
 refine wp_region_held_drew (S := fun w' => w'.cell? ⟨ga, 3, none⟩ = some (.int .u64 (e0 : Int))) (by kernel_rfl) ?_ (fun hHeld => ?_)
 ·exact HS.out _ (below_drewN bb 1)
 replace bb := below_drewN bb 1
 change Below _ _ w4.drew at bb
 generalize hw0 : w4.drew = W0 at hHeld bb ⊢
 clear hw0
 refine tkB 0 (v := ?_) (by assumption) ?_ ?_
 rotate_left 1
 ·intro w hSw; (try dsimp only at hSw); go_simp; try with_reducible rfl
 refine tkB 1 (v := ?_) (by assumption) ?_ ?_
 rotate_left 1
 ·intro w hSw; (try dsimp only at hSw); go_simp; try with_reducible rfl
 refine tkB 2 (v := ?_) (by assumption) ?_ ?_
 rotate_left 1
 ·intro w hSw; (try dsimp only at hSw); go_simp; try with_reducible rfl
 refine tkB 3 (v := ?_) (by assumption) ?_ ?_
 rotate_left 1
 ·intro w hSw; (try dsimp only at hSw); go_simp; try with_reducible rfl
 refine tkB 4 (v := ?_) (by assumption) ?_ ?_
 rotate_left 1
 ·intro w hSw; (try dsimp only at hSw); go_simp; try with_reducible rfl
 refine wpAnyH_ready (rs := [5]) (by kernel_rfl) (by simp) ?_
 refine AllReadyH.cons (by simp only [List.getElem?_toArray]; rfl) (fun K hK => ?_) AllReadyH.nil
 refine wanted_pos (by kernel_rfl) ?_
 go_simp
 clear hHeld
 go_at_call 72
 (with_reducible refine (HBI.out _ bb).mono ?_)
 rintro e V1 ⟨rfl, bn⟩
 go_wp2_with fail
 refine hK.out _ _ ?_ (fun hHeld => ?_)
 ·exact HS.out _ (bb.trans (bn.mono bb.size))
 clear hK K
 try conv => arg 8; simp only [Act.put, List.setIfInBounds_toArray, List.set_cons_zero, List.set_cons_succ]
 replace bb := bb.trans (bn.mono bb.size)
 clear bn
 refine tkB 6 (v := ?_) (by assumption) ?_ ?_
 rotate_left 1
 ·intro w hSw; (try dsimp only at hSw); go_simp; try with_reducible rfl
 refine wpAnyH_done (by kernel_rfl) ?_ _

 have hpst := HPS.out.call bb
 clear HPS HBI y3 HS hHeld bb
 by_cases hne : e0 = bt
 ·have t0 : decide ((e0 : Int) ≠ (bt : Int)) = false := by simp; omega
  have t1 : ((e0 : Int) != (bt : Int)) = false := by simp; omega
  have t2 : (e0 != bt) = false := by simpa using hne
  have hdoi : DoI (stepD (rowsD back rs) acls tab) (dueD (rowsD back rs)) (bitD ends) (glyL gn) (firstD back rs, 0) [((p0, 0), e0)] 0 (glyL 0) := by
   have h0 := DoI.start (step := (stepD (rowsD back rs) acls tab)) (gs := glyL gn) (x0 := (firstD back rs, 0)) (show (dueD (rowsD back rs)) (firstD back rs, 0) = (bitD ends) (firstD back rs, 0) by rw [HX0.out.1, HX0.out.2]; exact hne)
   rw [HX0.out.1, HP0.out] at h0
   rw [HP0.out]
   exact h0
  have HDE := Lib.hid (show (dueD (rowsD back rs)) (firstD back rs, 0) = (bitD ends) (firstD back rs, 0) by rw [HX0.out.1, HX0.out.2]; exact hne)
  have HD := Lib.hid hdoi
  have hgd : PGood back rs ((p0, 0), e0) := ⟨HGD0.out.1, HGD0.out.2, by show (-1 : Int) ≤ 0; omega, he064⟩
  clear hne hdoi he064 hbt64
  go_upto_region 6 with fail
  try rw [t1]
  clear t0 t1 t2
  go_loopw [14, 15] (fun av iv wr => ∃ (D : Nat → Prop) (A : Option Addr) (n c : Nat) (css : List (List Value)) (ps : List (DS × Nat)) (i : Nat), av = .slice A n c ∧ iv = .int .i64 i ∧ PSt w wr g #[.int .i64 lk.kind, .bool lk.ign, .slice qa qn qc] D A n c css ps ∧ DoI (stepD (rowsD back rs) acls tab) (dueD (rowsD back rs)) (bitD ends) (glyL gn) (firstD back rs, 0) ps i (glyL 0) ∧ (∀ x ∈ ps, PGood back rs x) ∧ i ≤ ps.length) (fun _ iv _ => 4000000000 - (intOf iv).toNat)
  case atStart => exact ⟨_, _, 1, 1, _, _, 0, rfl, rfl, hpst, HD.out, (fun x hx => by rw [List.mem_singleton] at hx; subst hx; exact hgd), by simp⟩
  case round =>
   clear hpst HD hgd
   obtain ⟨D, A, n, c, css, ps, i, rfl, rfl, hpst, hdoi, hgd, hil⟩ := hrel
   have hfew := HFEW.out ps i _ hdoi
   have hnl := hpst.len
   by_cases hlt : i < n
   ·have iz : (0 : Int) ≤ (i : Int) := by omega
    have inn : (i : Int) < (n : Int) := by omega
    have HNL := Lib.hid hnl
    have hi4 : i < 4000000000 := by omega
    have HD := Lib.hid hdoi; have HGD := Lib.hid hgd
    clear hnl hdoi hgd hfew hil
    go_upto_region 9 with fail
    go_loopw [14, 16] (fun av gv wr => ∃ (D : Nat → Prop) (A : Option Addr) (n c : Nat) (css : List (List Value)) (ps : List (DS × Nat)) (j : Nat), av = .slice A n c ∧ gv = .int .i64 j ∧ j ≤ gn ∧ PSt w wr g #[.int .i64 lk.kind, .bool lk.ign, .slice qa qn qc] D A n c css ps ∧ DoI (stepD (rowsD back rs) acls tab) (dueD (rowsD back rs)) (bitD ends) (glyL gn) (firstD back rs, 0) ps i (glyL j) ∧ (∀ x ∈ ps, PGood back rs x) ∧ i < n) (fun _ gv _ => gn - (intOf gv).toNat)
    case atStart => exact ⟨D, A, n, c, css, ps, 0, rfl, rfl, by omega, hpst, HD.out, HGD.out, hlt⟩
    case round =>
     clear hpst HD HGD HNL hlt inn
     obtain ⟨D, A, n, c, css, ps, j, rfl, rfl, hjg, hpst, hdoi, hgd, hin⟩ := hrel
     have inn : (i : Int) < (n : Int) := by omega
     have hnl := hpst.len
     have hfew := HFEW.out ps i _ hdoi
     have hcap := hpst.ma.ow.cap
     have hc1 := hcap.1
     have hc2 := hcap.2
     have HD := Lib.hid hdoi; have HGD := Lib.hid hgd
     obtain ⟨p, hp⟩ := at_some ps i (by omega)
     have hnB : n ≤ 4000000000 := by omega
     clear hdoi hgd hcap hfew hnl
     by_cases hlj : j < gn
     ·have jz : (0 : Int) ≤ (j : Int) := by omega
      have jn : (j : Int) < (gn : Int) := by omega
      have HPG := Lib.hid (HGD.out p (List.mem_of_getElem? hp))
      have HPI := Lib.hid hp
      obtain ⟨ga, pB, pm, pd, haa, ya, yb, yc, yd, hsE⟩ := hpst.at hp
      subst haa
      have HPST := Lib.hid hpst
      clear hp hpst
      go_upto_region 12 with fail
      have b5 := below_lit wr wr (Below.refl _ _) (.cells #[.int .i64 (p.1.1.1 : Int), .slice pB pm pd, .int .i64 p.1.2, .int .u64 (p.2 : Int)] 190)
      have kP := Bk.new wr 190 #[.int .i64 (p.1.1.1 : Int), .slice pB pm pd, .int .i64 p.1.2, .int .u64 (p.2 : Int)]
      have hp5 := HPST.out.call b5
      have hsE5 := hsE.call b5
      obtain ⟨w5, hw5⟩ : ∃ w5, wr.alloc (.cells #[.int .i64 (p.1.1.1 : Int), .slice pB pm pd, .int .i64 p.1.2, .int .u64 (p.2 : Int)] 190) = w5 := ⟨_, rfl⟩
      have hs5 : wr.heap.size < w5.heap.size := by rw [← hw5, World.size_alloc]; omega
      obtain ⟨gp, hgp⟩ : ∃ gp, wr.heap.size = gp := ⟨_, rfl⟩
      rw [hw5, hgp] at kP
      rw [hw5] at hp5 hsE5 b5
      rw [hw5, hgp]
      have HGP := Lib.hid hgp
      clear hw5 ya yb yc yd hsE hgp
      have hl5 := hp5.bl
      have HBE := Lib.hid fun (W : World) (bW : Below w5.heap.size w5 W) => dBehind_c _ lk back _ p.1.1 (j : Int) W (elk_mono HEL.out (lo_mono (below_call hl5 bW).size) (kept_below (below_call hl5 bW))) (by rw [HRS.out]; exact HSM.out) (hsE5.call bW) (by rw [HRS.out]; exact HPG.out.s)
      rw [HRS.out] at HBE
      obtain ⟨q, hqe⟩ : ∃ q, behindD (rowsD back rs) p.1.1 (j : Int) = q := ⟨_, rfl⟩
      have HGQ := Lib.hid (show GoodS back rs q by rw [← hqe]; exact behindD_good HPG.out.s _ (by have := HPG.out.m; omega))
      have HNQ := Lib.hid (show GoodS back rs (normD q) ∧ (normD q).1 ≤ 100 by rw [← hqe]; exact normD_good HSM.out HPG.out.s HPG.out.m)
      rw [hqe] at HBE
      have HQE := Lib.hid hqe
      have x0 := box_cells hp5.kL 0 rfl
      have x1 := box_cells hp5.kL 1 rfl
      have x2 := box_cells hp5.kL 2 rfl
      have u0 := box_cells kP 0 rfl
      have u1 := box_cells kP 1 rfl
      have u3 := box_cells kP 3 rfl
      have HP5 := Lib.hid hp5
      clear hqe hsE5 hp5
      go_cut [18] (fun tv wx => ∃ (gq : Nat) (A : Option Addr) (n c : Nat), tv = .pointer (some ⟨gq, 0, none⟩) ∧ Bk wx gq 190 #[.int .i64 (q.1 : Int), .slice A n c, .int .i64 (-1), .int .u64 (p.2 : Int)] ∧ Rd wx (fun b => w5.heap.size ≤ b ∧ b < wx.heap.size ∧ b ≠ gq) A n (gls q.2) ∧ Hd n c ∧ w5.heap.size ≤ gq ∧ Below w5.heap.size w5 wx)
      case first =>
       as_aux_lemma =>
        have HS := Lib.hid fun (W : World) (bW : Below w5.heap.size w5 W) => (show W.cell? ⟨g, 0, none⟩ = some (.int .i64 lk.kind) ∧ W.cell? ⟨g, 1, none⟩ = some (.bool lk.ign) ∧ W.cell? ⟨g, 2, none⟩ = some (.slice qa qn qc) ∧ W.cell? ⟨gp, 0, none⟩ = some (.int .i64 (p.1.1.1 : Int)) ∧ W.cell? ⟨gp, 1, none⟩ = some (.slice pB pm pd) ∧ W.cell? ⟨gp, 3, none⟩ = some (.int .u64 (p.2 : Int)) from ⟨cell_call x0 bW, cell_call x1 bW, cell_call x2 bW, cell_call u0 bW, cell_call u1 bW, cell_call u3 bW⟩)
        have bb := Below.refl w5.heap.size w5
        refine wp_region_held_drew (S := fun w' => w'.cell? ⟨g, 0, none⟩ = some (.int .i64 lk.kind) ∧ w'.cell? ⟨g, 1, none⟩ = some (.bool lk.ign) ∧ w'.cell? ⟨g, 2, none⟩ = some (.slice qa qn qc) ∧ w'.cell? ⟨gp, 0, none⟩ = some (.int .i64 (p.1.1.1 : Int)) ∧ w'.cell? ⟨gp, 1, none⟩ = some (.slice pB pm pd) ∧ w'.cell? ⟨gp, 3, none⟩ = some (.int .u64 (p.2 : Int))) (by kernel_rfl) ?_ (fun hHeld => ?_)
        ·exact HS.out _ (below_drewN bb 1)
        replace bb := below_drewN bb 1
        change Below _ _ w5.drew at bb
        generalize hw0 : w5.drew = W0 at hHeld bb ⊢
        clear hw0
        refine tkB 0 (v := ?_) (by assumption) ?_ ?_
        rotate_left 1
        ·intro w hSw; (try dsimp only at hSw); go_simp; try with_reducible rfl
        refine tkB 1 (v := ?_) (by assumption) ?_ ?_
        rotate_left 1
        ·intro w hSw; (try dsimp only at hSw); go_simp; try with_reducible rfl
        refine tkB 2 (v := ?_) (by assumption) ?_ ?_
        rotate_left 1
        ·intro w hSw; (try dsimp only at hSw); go_simp; try with_reducible rfl
        refine tkB 3 (v := ?_) (by assumption) ?_ ?_
        rotate_left 1
        ·intro w hSw; (try dsimp only at hSw); go_simp; try with_reducible rfl
        refine tkB 4 (v := ?_) (by assumption) ?_ ?_
        rotate_left 1
        ·intro w hSw; (try dsimp only at hSw); go_simp; try with_reducible rfl
        refine tkB 6 (v := ?_) (by assumption) ?_ ?_
        rotate_left 1
        ·intro w hSw; (try dsimp only at hSw); go_simp; try with_reducible rfl
        refine tkB 7 (v := ?_) (by assumption) ?_ ?_
        rotate_left 1
        ·intro w hSw; (try dsimp only at hSw); go_simp; try with_reducible rfl
        refine wpAnyH_ready (rs := [5, 9]) (by kernel_rfl) (by simp) ?_
        refine AllReadyH.cons (by simp only [List.getElem?_toArray]; rfl) (fun K hK => ?_) (AllReadyH.cons (by simp only [List.getElem?_toArray]; rfl) (fun K hK => ?_) AllReadyH.nil)
        ·refine wanted_pos (by kernel_rfl) ?_
         go_simp
         clear hHeld
         go_at_call 76
         (with_reducible refine (HBE.out _ bb).mono ?_)
         rintro e V1 ⟨A, n, c, rfl, hrd, hhd, bn⟩
         go_wp2_with fail
         refine hK.out _ _ ?_ (fun hHeld => ?_)
         ·exact HS.out _ (bb.trans (bn.mono bb.size))
         clear hK K
         try conv => arg 8; simp only [Act.put, List.setIfInBounds_toArray, List.set_cons_zero, List.set_cons_succ]
         have bb1 := bb.trans (bn.mono bb.size)
         refine tkB 8 (v := ?_) (by assumption) ?_ ?_
         rotate_left 1
         ·intro w hSw; (try dsimp only at hSw); go_simp; try with_reducible rfl
         refine wpAnyH_ready (rs := [9]) (by kernel_rfl) (by simp) ?_
         refine AllReadyH.cons (by simp only [List.getElem?_toArray]; rfl) (fun K hK => ?_) AllReadyH.nil
         refine wanted_pos (by kernel_rfl) ?_
         go_simp
         clear hHeld
         refine hK.out _ _ ?_ (fun hHeld => ?_)
         ·exact HS.out _ (below_lit _ _ bb1 _)
         clear hK K
         try conv => arg 8; simp only [Act.put, List.setIfInBounds_toArray, List.set_cons_zero, List.set_cons_succ]
         have kN := Bk.new V1 190 #[.int .i64 0, .slice none 0 0, .int .i64 0, .int .u64 0]
         have hge : w5.heap.size ≤ V1.heap.size := bb1.size
         have hbs := bb.size
         replace hrd : Rd (V1.alloc (.cells #[.int .i64 0, .slice none 0 0, .int .i64 0, .int .u64 0] 190)) (fun b => w5.heap.size ≤ b ∧ b < (V1.alloc (.cells #[.int .i64 0, .slice none 0 0, .int .i64 0, .int .u64 0] 190)).heap.size ∧ b ≠ V1.heap.size) A n (gls q.2) := hrd.mono (fun b hb => ⟨by omega, by rw [World.size_alloc]; omega, by omega⟩) (fun b hb => Below.heap_alloc V1 _ b hb.2)
         replace bb := below_lit _ _ bb1 (.cells #[.int .i64 0, .slice none 0 0, .int .i64 0, .int .u64 0] 190)
         obtain ⟨VX, hVX⟩ : ∃ VX, V1.alloc (.cells #[.int .i64 0, .slice none 0 0, .int .i64 0, .int .u64 0] 190) = VX := ⟨_, rfl⟩
         obtain ⟨gq, hgq⟩ : ∃ gN, V1.heap.size = gN := ⟨_, rfl⟩
         rw [hVX] at kN bb hrd hHeld ⊢
         rw [hgq] at kN hge hrd ⊢
         clear hVX hgq bb1 bn hbs HBE
         have f0 := kN.frozen 0
         have f1 := kN.frozen 1
         have f2 := kN.frozen 2
         have f3 := kN.frozen 3
         have y0 := box_cells kN 0 rfl
         have y1 := box_cells kN 1 rfl
         have y2 := box_cells kN 2 rfl
         have y3 := box_cells kN 3 rfl
         refine wpAnyH_ready (rs := [10]) (by kernel_rfl) (by simp) ?_
         refine AllReadyH.cons (by simp only [List.getElem?_toArray]; rfl) (fun K hK => ?_) AllReadyH.nil
         refine wanted_pos (by kernel_rfl) ?_
         go_simp
         clear hHeld
         refine hK.out _ _ ?_ (fun hHeld => ?_)
         ·exact HS.out _ ((((bb.setCell (p := ⟨gq, 0, none⟩) hge _).setCell (p := ⟨gq, 1, none⟩) hge _).setCell (p := ⟨gq, 2, none⟩) hge _).setCell (p := ⟨gq, 3, none⟩) hge _)
         clear hK K
         try conv => arg 8; simp only [Act.put, List.setIfInBounds_toArray, List.set_cons_zero, List.set_cons_succ]
         refine wpAnyH_done (by kernel_rfl) ?_ _
         have kN2 := store4_bk kN (.int .i64 (q.1 : Int)) (.slice A n c) (.int .i64 (-1)) (.int .u64 (p.2 : Int))
         obtain ⟨hfar, hsz⟩ := store4_far VX gq (.int .i64 (q.1 : Int)) (.slice A n c) (.int .i64 (-1)) (.int .u64 (p.2 : Int))
         have bV := store4_below (g := gq) bb hge (.int .i64 (q.1 : Int)) (.slice A n c) (.int .i64 (-1)) (.int .u64 (p.2 : Int))
         have hRV : Rd (store4 VX gq (.int .i64 (q.1 : Int)) (.slice A n c) (.int .i64 (-1)) (.int .u64 (p.2 : Int))) (fun b => w5.heap.size ≤ b ∧ b < (store4 VX gq (.int .i64 (q.1 : Int)) (.slice A n c) (.int .i64 (-1)) (.int .u64 (p.2 : Int))).heap.size ∧ b ≠ gq) A n (gls q.2) := hrd.mono (fun b hb => ⟨hb.1, by rw [hsz]; exact hb.2.1, hb.2.2⟩) (fun b hb => hfar b hb.2.2)
         clear hHeld
         go_wp2_with fail
         go_meet
         exact ⟨gq, A, n, c, rfl, kN2, hRV, hhd, hge, bV⟩

        ·refine wanted_pos (by kernel_rfl) ?_
         go_simp
         clear hHeld
         refine hK.out _ _ ?_ (fun hHeld => ?_)
         ·exact HS.out _ (below_lit _ _ bb _)
         clear hK K
         try conv => arg 8; simp only [Act.put, List.setIfInBounds_toArray, List.set_cons_zero, List.set_cons_succ]
         have bbl := below_lit _ _ bb (.cells #[.int .i64 0, .slice none 0 0, .int .i64 0, .int .u64 0] 190)
         have kN0 := Bk.new W0 190 #[.int .i64 0, .slice none 0 0, .int .i64 0, .int .u64 0]
         refine wpAnyH_ready (rs := [5]) (by kernel_rfl) (by simp) ?_
         refine AllReadyH.cons (by simp only [List.getElem?_toArray]; rfl) (fun K hK => ?_) AllReadyH.nil
         refine wanted_pos (by kernel_rfl) ?_
         go_simp
         clear hHeld
         go_at_call 76
         (with_reducible refine (HBE.out _ bbl).mono ?_)
         rintro e V1 ⟨A, n, c, rfl, hrd, hhd, bn⟩
         go_wp2_with fail
         refine hK.out _ _ ?_ (fun hHeld => ?_)
         ·exact HS.out _ (bbl.trans (bn.mono bbl.size))
         clear hK K
         try conv => arg 8; simp only [Act.put, List.setIfInBounds_toArray, List.set_cons_zero, List.set_cons_succ]
         have hge : w5.heap.size ≤ W0.heap.size := bb.size
         replace bb := bbl.trans (bn.mono bbl.size)
         have kN := kN0.below bn kN0.lt
         replace hrd : Rd V1 (fun b => w5.heap.size ≤ b ∧ b < V1.heap.size ∧ b ≠ W0.heap.size) A n (gls q.2) := hrd.mono (fun b hb => ⟨by have := hb.1; rw [World.size_alloc] at this; omega, hb.2, by have := hb.1; rw [World.size_alloc] at this; omega⟩) (Kept.refl _ _)
         obtain ⟨VX, hVX⟩ : ∃ VX, V1 = VX := ⟨_, rfl⟩
         obtain ⟨gq, hgq⟩ : ∃ gN, W0.heap.size = gN := ⟨_, rfl⟩
         rw [hVX] at kN bb hrd hHeld ⊢
         rw [hgq] at kN hge hrd ⊢
         clear hVX hgq bbl bn kN0 HBE
         refine tkB 8 (v := ?_) (by assumption) ?_ ?_
         rotate_left 1
         ·intro w hSw; (try dsimp only at hSw); go_simp; try with_reducible rfl
         have f0 := kN.frozen 0
         have f1 := kN.frozen 1
         have f2 := kN.frozen 2
         have f3 := kN.frozen 3
         have y0 := box_cells kN 0 rfl
         have y1 := box_cells kN 1 rfl
         have y2 := box_cells kN 2 rfl
         have y3 := box_cells kN 3 rfl
         refine wpAnyH_ready (rs := [10]) (by kernel_rfl) (by simp) ?_
         refine AllReadyH.cons (by simp only [List.getElem?_toArray]; rfl) (fun K hK => ?_) AllReadyH.nil
         refine wanted_pos (by kernel_rfl) ?_
         go_simp
         clear hHeld
         refine hK.out _ _ ?_ (fun hHeld => ?_)
         ·exact HS.out _ ((((bb.setCell (p := ⟨gq, 0, none⟩) hge _).setCell (p := ⟨gq, 1, none⟩) hge _).setCell (p := ⟨gq, 2, none⟩) hge _).setCell (p := ⟨gq, 3, none⟩) hge _)
         clear hK K
         try conv => arg 8; simp only [Act.put, List.setIfInBounds_toArray, List.set_cons_zero, List.set_cons_succ]
         refine wpAnyH_done (by kernel_rfl) ?_ _
         have kN2 := store4_bk kN (.int .i64 (q.1 : Int)) (.slice A n c) (.int .i64 (-1)) (.int .u64 (p.2 : Int))
         obtain ⟨hfar, hsz⟩ := store4_far VX gq (.int .i64 (q.1 : Int)) (.slice A n c) (.int .i64 (-1)) (.int .u64 (p.2 : Int))
         have bV := store4_below (g := gq) bb hge (.int .i64 (q.1 : Int)) (.slice A n c) (.int .i64 (-1)) (.int .u64 (p.2 : Int))
         have hRV : Rd (store4 VX gq (.int .i64 (q.1 : Int)) (.slice A n c) (.int .i64 (-1)) (.int .u64 (p.2 : Int))) (fun b => w5.heap.size ≤ b ∧ b < (store4 VX gq (.int .i64 (q.1 : Int)) (.slice A n c) (.int .i64 (-1)) (.int .u64 (p.2 : Int))).heap.size ∧ b ≠ gq) A n (gls q.2) := hrd.mono (fun b hb => ⟨hb.1, by rw [hsz]; exact hb.2.1, hb.2.2⟩) (fun b hb => hfar b hb.2.2)
         clear hHeld
         go_wp2_with fail
         go_meet
         exact ⟨gq, A, n, c, rfl, kN2, hRV, hhd, hge, bV⟩

      case rest =>
       as_aux_lemma =>
        clear HBE x0 x1 x2 u0 u1 u3
        obtain ⟨gq, A, qn', c, rfl, kQ, hRQ, hhd, hge, bV⟩ := hcut
        have kP6 := kP.below bV kP.lt
        have u2 := box_cells kP6 2 rfl
        obtain ⟨at', hat'⟩ : ∃ a, stepA acls tab p.1.2 (j : Int) = a := ⟨_, rfl⟩
        have HAT := Lib.hid hat'
        have hpa := HPG.out.a
        have hpa0 : p.1.2 < 0 → at' = -1 := fun h => by
         have e : p.1.2 = -1 := by omega
         rw [← hat', e, stepA_ended]
        have HPA0 := Lib.hid hpa0
        have HST := Lib.hid (dstep_c r.ca r.cn r.cc acls r.ta r.tn r.tc tab p.1.2 (j : Int) wc (HRR.out.call (below_call hl5 bV)).c HRR.out.hc (HRR.out.call (below_call hl5 bV)).t HRR.out.ht)
        rw [hat'] at HST
        have hge6 : w5.heap.size ≤ gq := hge
        have hltq := kQ.lt
        clear hat' hpa0
        generalize hw6 : wc = w6 at *
        clear hw6 wc
        go_upto_if 64 with fail
        go_cut [18] (fun tv wx => tv = .pointer (some ⟨gq, 0, none⟩) ∧ Bk wx gq 190 #[.int .i64 (q.1 : Int), .slice A qn' c, .int .i64 at', .int .u64 (p.2 : Int)] ∧ Rd wx (fun b => w5.heap.size ≤ b ∧ b < wx.heap.size ∧ b ≠ gq) A qn' (gls q.2) ∧ Below w5.heap.size w5 wx)
        case first =>
         as_aux_lemma =>
          by_cases hpz : 0 ≤ p.1.2
          ·have t5 : decide (0 ≤ p.1.2) = true := by simpa using hpz
           clear HPA0
           go_wp2_with fail
           refine HST.out.mono ?_
           rintro e w7 ⟨rfl, bn⟩
           have k7 := kQ.below bn kQ.lt
           have bV7 := bV.trans (bn.mono bV.size)
           have f2 := k7.frozen 2
           have y2 := box_cells k7 2 rfl
           have hR7 : Rd (w7.setCell ⟨gq, 2, none⟩ (.int .i64 at')) (fun b => w5.heap.size ≤ b ∧ b < (w7.setCell ⟨gq, 2, none⟩ (.int .i64 at')).heap.size ∧ b ≠ gq) A qn' (gls q.2) := hRQ.mono (fun b hb => ⟨hb.1, by rw [World.size_setCell]; exact Nat.lt_of_lt_of_le hb.2.1 bn.size, hb.2.2⟩) (fun b hb => (Below.heap_setCell w7 ⟨gq, 2, none⟩ _ b hb.2.2).trans (bn.block b hb.2.1))
           have kQ7 : Bk (w7.setCell ⟨gq, 2, none⟩ (.int .i64 at')) gq 190 #[.int .i64 (q.1 : Int), .slice A qn' c, .int .i64 at', .int .u64 (p.2 : Int)] := k7.set_ 2 _
           have bV8 := bV7.setCell (p := ⟨gq, 2, none⟩) hge6 (.int .i64 at')
           go_wp2_with fail
           go_meet
           exact ⟨rfl, kQ7, hR7, bV8⟩
          ·have t5 : decide (0 ≤ p.1.2) = false := by simpa using hpz
           have ha : at' = -1 := HPA0.out (by omega)
           rw [← ha] at kQ
           clear HPA0 ha HST
           go_wp2_with fail
           go_meet
           exact ⟨rfl, kQ, hRQ, bV⟩
        case rest =>
         as_aux_lemma =>
          clear HST HPA0 kQ hRQ bV kP6 u2 hltq
          obtain ⟨rfl, kQ, hRQ, bV⟩ := hcut
          generalize hwb : wc = wb at *
          clear hwb wc
          have hpb := HP5.out.call bV
          have hlb := hpb.bl
          have hgeb : w5.heap.size ≤ gq := hge
          have hltq := kQ.lt
          have hgq : g ≠ gq := fun e => by
           have h1 := hpb.kL
           have h2 := kQ
           rw [e] at h1
           unfold Bk at h1 h2
           rw [h1] at h2; injection h2 with h2; injection h2 with _ h2
           exact absurd h2 (by decide)
          have bVs := bV.size
          have HEN := Lib.hid fun (W : World) (bW : Below wb.heap.size wb W) => dEnds_c _ lk back [.int .i64 (q.1 : Int), .slice A qn' c] q W (elk_mono HEL.out (lo_mono (below_call hlb bW).size) (kept_below (below_call hlb bW))) (by rw [HRS.out]; exact HSM.out) ⟨A, qn', c, rfl, hRQ.mono (fun b hb => Nat.lt_of_lt_of_le hb.2.1 bW.size) (fun b hb => bW.block b hb.2.1), hhd⟩ (by rw [HRS.out]; exact HGQ.out)
          rw [HRS.out] at HEN
          obtain ⟨ey, hey⟩ : ∃ y, endsD (rowsD back rs) q = y := ⟨_, rfl⟩
          rw [hey] at HEN
          have HEY := Lib.hid hey
          have hey64 : ey < 18446744073709551616 := by rw [← hey, endN_all back rs q (Nat.le_refl _)]; exact endN_lt HGQ.out HSM.out.n _
          have hor := bits_or_u64_nat p.2 ey HPG.out.b hey64
          have x0 := box_cells hpb.kL 0 rfl
          have x1 := box_cells hpb.kL 1 rfl
          have x2 := box_cells hpb.kL 2 rfl
          have v0 := box_cells kQ 0 rfl
          have v1 := box_cells kQ 1 rfl
          have v3 := box_cells kQ 3 rfl
          clear hey hpb
          go_upto_region 15 with fail
          go_cut [18] (fun tv wx => tv = .pointer (some ⟨gq, 0, none⟩) ∧ Bk wx gq 190 #[.int .i64 (q.1 : Int), .slice A qn' c, .int .i64 at', .int .u64 ((p.2 ||| ey : Nat) : Int)] ∧ (∀ b, b < wb.heap.size → b ≠ gq → wx.heap[b]? = wb.heap[b]?) ∧ Below w5.heap.size wb wx)
          case first =>
           as_aux_lemma =>
            have HS := Lib.hid fun (W : World) (bW : Below wb.heap.size wb W) => (show W.cell? ⟨g, 0, none⟩ = some (.int .i64 lk.kind) ∧ W.cell? ⟨g, 1, none⟩ = some (.bool lk.ign) ∧ W.cell? ⟨g, 2, none⟩ = some (.slice qa qn qc) ∧ W.cell? ⟨gq, 0, none⟩ = some (.int .i64 (q.1 : Int)) ∧ W.cell? ⟨gq, 1, none⟩ = some (.slice A qn' c) from ⟨cell_call x0 bW, cell_call x1 bW, cell_call x2 bW, cell_call v0 bW, cell_call v1 bW⟩)
            have bb := Below.refl wb.heap.size wb
            refine wp_region_held_drew (S := fun w' => w'.cell? ⟨g, 0, none⟩ = some (.int .i64 lk.kind) ∧ w'.cell? ⟨g, 1, none⟩ = some (.bool lk.ign) ∧ w'.cell? ⟨g, 2, none⟩ = some (.slice qa qn qc) ∧ w'.cell? ⟨gq, 0, none⟩ = some (.int .i64 (q.1 : Int)) ∧ w'.cell? ⟨gq, 1, none⟩ = some (.slice A qn' c)) (by kernel_rfl) ?_ (fun hHeld => ?_)
            ·exact HS.out _ (below_drewN bb 1)
            replace bb := below_drewN bb 1
            change Below _ _ wb.drew at bb
            generalize hw0 : wb.drew = W0 at hHeld bb ⊢
            clear hw0
            refine tkB 0 (v := ?_) (by assumption) ?_ ?_
            rotate_left 1
            ·intro w hSw; (try dsimp only at hSw); go_simp; try with_reducible rfl
            refine tkB 2 (v := ?_) (by assumption) ?_ ?_
            rotate_left 1
            ·intro w hSw; (try dsimp only at hSw); go_simp; try with_reducible rfl
            refine tkB 3 (v := ?_) (by assumption) ?_ ?_
            rotate_left 1
            ·intro w hSw; (try dsimp only at hSw); go_simp; try with_reducible rfl
            refine tkB 4 (v := ?_) (by assumption) ?_ ?_
            rotate_left 1
            ·intro w hSw; (try dsimp only at hSw); go_simp; try with_reducible rfl
            refine tkB 5 (v := ?_) (by assumption) ?_ ?_
            rotate_left 1
            ·intro w hSw; (try dsimp only at hSw); go_simp; try with_reducible rfl
            refine wpAnyH_ready (rs := [1, 6]) (by kernel_rfl) (by simp) ?_
            refine AllReadyH.cons (by simp only [List.getElem?_toArray]; rfl) (fun K hK => ?_) (AllReadyH.cons (by simp only [List.getElem?_toArray]; rfl) (fun K hK => ?_) AllReadyH.nil)
            ·have yL := cell_call v3 bb
             refine wanted_pos (by kernel_rfl) ?_
             go_simp
             clear hHeld
             refine hK.out _ _ ?_ (fun hHeld => ?_)
             ·exact HS.out _ bb
             clear hK K
             try conv => arg 8; simp only [Act.put, List.setIfInBounds_toArray, List.set_cons_zero, List.set_cons_succ]
             clear yL
             refine wpAnyH_ready (rs := [6]) (by kernel_rfl) (by simp) ?_
             refine AllReadyH.cons (by simp only [List.getElem?_toArray]; rfl) (fun K hK => ?_) AllReadyH.nil
             refine wanted_pos (by kernel_rfl) ?_
             go_simp
             clear hHeld
             go_at_call 78
             (with_reducible refine (HEN.out _ bb).mono ?_)
             rintro e V1 ⟨rfl, bn⟩
             go_wp2_with fail
             refine hK.out _ _ ?_ (fun hHeld => ?_)
             ·exact HS.out _ (bb.trans (bn.mono bb.size))
             clear hK K
             try conv => arg 8; simp only [Act.put, List.setIfInBounds_toArray, List.set_cons_zero, List.set_cons_succ]
             replace bb := bb.trans (bn.mono bb.size)
             clear bn
             refine tkB 7 (v := ?_) (by assumption) ?_ ?_
             rotate_left 1
             ·intro w hSw; (try dsimp only at hSw); go_simp; try with_reducible rfl
             refine tkB 8 (v := ?_) (by assumption) ?_ ?_
             rotate_left 1
             ·intro w hSw; (try dsimp only at hSw); go_simp; try with_reducible rfl
             have kB := kQ.below bb kQ.lt
             have f3 := kB.frozen 3
             have y3 := box_cells kB 3 rfl
             have kN2 : Bk (V1.setCell ⟨gq, 3, none⟩ (.int .u64 ((p.2 ||| ey : Nat) : Int))) gq 190 #[.int .i64 (q.1 : Int), .slice A qn' c, .int .i64 at', .int .u64 ((p.2 ||| ey : Nat) : Int)] := kB.set_ 3 _
             refine wpAnyH_ready (rs := [9]) (by kernel_rfl) (by simp) ?_
             refine AllReadyH.cons (by simp only [List.getElem?_toArray]; rfl) (fun K hK => ?_) AllReadyH.nil
             refine wanted_pos (by kernel_rfl) ?_
             go_simp
             clear hHeld
             refine hK.out _ _ ?_ (fun hHeld => ?_)
             ·exact ⟨(World.cell?_of_block (a := ⟨g, 0, none⟩) (Below.heap_setCell _ ⟨gq, 3, none⟩ _ g hgq)).trans (cell_call x0 bb), (World.cell?_of_block (a := ⟨g, 1, none⟩) (Below.heap_setCell _ ⟨gq, 3, none⟩ _ g hgq)).trans (cell_call x1 bb), (World.cell?_of_block (a := ⟨g, 2, none⟩) (Below.heap_setCell _ ⟨gq, 3, none⟩ _ g hgq)).trans (cell_call x2 bb), box_cells kN2 0 rfl, box_cells kN2 1 rfl⟩
             clear hK K
             try conv => arg 8; simp only [Act.put, List.setIfInBounds_toArray, List.set_cons_zero, List.set_cons_succ]
             refine wpAnyH_done (by kernel_rfl) ?_ _
             have bV := (bb.mono bVs).setCell (p := ⟨gq, 3, none⟩) hgeb (.int .u64 ((p.2 ||| ey : Nat) : Int))
             clear hHeld f3 y3
             go_wp2_with fail
             go_meet
             exact ⟨rfl, kN2, fun b h1 h2 => (Below.heap_setCell V1 ⟨gq, 3, none⟩ _ b h2).trans (bb.block b h1), bV⟩

            ·refine wanted_pos (by kernel_rfl) ?_
             go_simp
             clear hHeld
             go_at_call 78
             (with_reducible refine (HEN.out _ bb).mono ?_)
             rintro e V1 ⟨rfl, bn⟩
             go_wp2_with fail
             refine hK.out _ _ ?_ (fun hHeld => ?_)
             ·exact HS.out _ (bb.trans (bn.mono bb.size))
             clear hK K
             try conv => arg 8; simp only [Act.put, List.setIfInBounds_toArray, List.set_cons_zero, List.set_cons_succ]
             replace bb := bb.trans (bn.mono bb.size)
             clear bn
             refine wpAnyH_ready (rs := [1]) (by kernel_rfl) (by simp) ?_
             refine AllReadyH.cons (by simp only [List.getElem?_toArray]; rfl) (fun K hK => ?_) AllReadyH.nil
             have yL := cell_call v3 bb
             refine wanted_pos (by kernel_rfl) ?_
             go_simp
             clear hHeld
             refine hK.out _ _ ?_ (fun hHeld => ?_)
             ·exact HS.out _ bb
             clear hK K
             try conv => arg 8; simp only [Act.put, List.setIfInBounds_toArray, List.set_cons_zero, List.set_cons_succ]
             clear yL
             refine tkB 7 (v := ?_) (by assumption) ?_ ?_
             rotate_left 1
             ·intro w hSw; (try dsimp only at hSw); go_simp; try with_reducible rfl
             refine tkB 8 (v := ?_) (by assumption) ?_ ?_
             rotate_left 1
             ·intro w hSw; (try dsimp only at hSw); go_simp; try with_reducible rfl
             have kB := kQ.below bb kQ.lt
             have f3 := kB.frozen 3
             have y3 := box_cells kB 3 rfl
             have kN2 : Bk (V1.setCell ⟨gq, 3, none⟩ (.int .u64 ((p.2 ||| ey : Nat) : Int))) gq 190 #[.int .i64 (q.1 : Int), .slice A qn' c, .int .i64 at', .int .u64 ((p.2 ||| ey : Nat) : Int)] := kB.set_ 3 _
             refine wpAnyH_ready (rs := [9]) (by kernel_rfl) (by simp) ?_
             refine AllReadyH.cons (by simp only [List.getElem?_toArray]; rfl) (fun K hK => ?_) AllReadyH.nil
             refine wanted_pos (by kernel_rfl) ?_
             go_simp
             clear hHeld
             refine hK.out _ _ ?_ (fun hHeld => ?_)
             ·exact ⟨(World.cell?_of_block (a := ⟨g, 0, none⟩) (Below.heap_setCell _ ⟨gq, 3, none⟩ _ g hgq)).trans (cell_call x0 bb), (World.cell?_of_block (a := ⟨g, 1, none⟩) (Below.heap_setCell _ ⟨gq, 3, none⟩ _ g hgq)).trans (cell_call x1 bb), (World.cell?_of_block (a := ⟨g, 2, none⟩) (Below.heap_setCell _ ⟨gq, 3, none⟩ _ g hgq)).trans (cell_call x2 bb), box_cells kN2 0 rfl, box_cells kN2 1 rfl⟩
             clear hK K
             try conv => arg 8; simp only [Act.put, List.setIfInBounds_toArray, List.set_cons_zero, List.set_cons_succ]
             refine wpAnyH_done (by kernel_rfl) ?_ _
             have bV := (bb.mono bVs).setCell (p := ⟨gq, 3, none⟩) hgeb (.int .u64 ((p.2 ||| ey : Nat) : Int))
             clear hHeld f3 y3
             go_wp2_with fail
             go_meet
             exact ⟨rfl, kN2, fun b h1 h2 => (Below.heap_setCell V1 ⟨gq, 3, none⟩ _ b h2).trans (bb.block b h1), bV⟩

          case rest =>
           as_aux_lemma =>
            obtain ⟨rfl, kQ2, hfarQ, bW2⟩ := hcut
            clear HEN x0 x1 x2 v0 v1 v3 hor
            have bV2 := bV.trans bW2
            have hRQ2 : Rd wc (fun b => w5.heap.size ≤ b ∧ b < wc.heap.size ∧ b ≠ gq) A qn' (gls q.2) := hRQ.mono (fun b hb => ⟨hb.1, Nat.lt_of_lt_of_le hb.2.1 bW2.size, hb.2.2⟩) (fun b hb => hfarQ b hb.2.1 hb.2.2)
            clear hRQ kQ bV hlb hltq hfarQ bW2
            have hpc := HP5.out.call bV2
            have hlc := hpc.bl
            have HBI := Lib.hid fun (W : World) (bW : Below wc.heap.size wc W) => dbits_c r.ea r.en r.ec ends at' W (HRR.out.call (below_call hlc bW)).e HRR.out.he
            obtain ⟨bt', hbt'⟩ : ∃ b, bitsA ends at' = b := ⟨_, rfl⟩
            have hbt64' : bt' < 18446744073709551616 := by rw [← hbt']; exact HBL.out at'
            rw [hbt'] at HBI
            have HBT' := Lib.hid hbt'
            have hor := bits_or_u64_nat p.2 bt' HPG.out.b hbt64'
            have kPc := kP.below bV2 kP.lt
            have u3 := box_cells kPc 3 rfl
            have v2 := box_cells kQ2 2 rfl
            have v3 := box_cells kQ2 3 rfl
            have HPC := Lib.hid hpc
            have hstep := stepT_eq (back := back) (rs := rs) (acls := acls) (tab := tab) p (j : Int) HQE.out HAT.out HEY.out
            have HSTP := Lib.hid hstep
            have HBC := Lib.hid (show (bitD ends) ((stepD (rowsD back rs) acls tab) p.1 (j : Int)) = bt' by show bitsA ends (stepA acls tab p.1.2 (j : Int)) = bt'; rw [HAT.out]; exact HBT'.out)
            clear hbt' hpc hstep
            go_upto_region 16 with fail
            have HS := Lib.hid fun (W : World) (bW : Below wc.heap.size wc W) => (show W.cell? ⟨gp, 3, none⟩ = some (.int .u64 (p.2 : Int)) ∧ W.cell? ⟨gq, 2, none⟩ = some (.int .i64 at') ∧ W.cell? ⟨gq, 3, none⟩ = some (.int .u64 ((p.2 ||| ey : Nat) : Int)) from ⟨cell_call u3 bW, cell_call v2 bW, cell_call v3 bW⟩)
            have bb := Below.refl wc.heap.size wc
            refine wp_region_held_drew (S := fun w' => w'.cell? ⟨gp, 3, none⟩ = some (.int .u64 (p.2 : Int)) ∧ w'.cell? ⟨gq, 2, none⟩ = some (.int .i64 at') ∧ w'.cell? ⟨gq, 3, none⟩ = some (.int .u64 ((p.2 ||| ey : Nat) : Int))) (by kernel_rfl) ?_ (fun hHeld => ?_)
            ·exact HS.out _ (below_drewN bb 1)
            replace bb := below_drewN bb 1
            change Below _ _ wc.drew at bb
            generalize hw0 : wc.drew = W0 at hHeld bb ⊢
            clear hw0
            refine tkB 0 (v := ?_) (by assumption) ?_ ?_
            rotate_left 1
            ·intro w hSw; (try dsimp only at hSw); go_simp; try with_reducible rfl
            refine tkB 1 (v := ?_) (by assumption) ?_ ?_
            rotate_left 1
            ·intro w hSw; (try dsimp only at hSw); go_simp; try with_reducible rfl
            refine tkB 2 (v := ?_) (by assumption) ?_ ?_
            rotate_left 1
            ·intro w hSw; (try dsimp only at hSw); go_simp; try with_reducible rfl
            refine tkB 3 (v := ?_) (by assumption) ?_ ?_
            rotate_left 1
            ·intro w hSw; (try dsimp only at hSw); go_simp; try with_reducible rfl
            refine tkB 4 (v := ?_) (by assumption) ?_ ?_
            rotate_left 1
            ·intro w hSw; (try dsimp only at hSw); go_simp; try with_reducible rfl
            refine tkB 7 (v := ?_) (by assumption) ?_ ?_
            rotate_left 1
            ·intro w hSw; (try dsimp only at hSw); go_simp; try with_reducible rfl
            refine tkB 8 (v := ?_) (by assumption) ?_ ?_
            rotate_left 1
            ·intro w hSw; (try dsimp only at hSw); go_simp; try with_reducible rfl
            refine wpAnyH_ready (rs := [5]) (by kernel_rfl) (by simp) ?_
            refine AllReadyH.cons (by simp only [List.getElem?_toArray]; rfl) (fun K hK => ?_) AllReadyH.nil
            refine wanted_pos (by kernel_rfl) ?_
            go_simp
            clear hHeld
            go_at_call 72
            (with_reducible refine (HBI.out _ bb).mono ?_)
            rintro e V1 ⟨rfl, bn⟩
            go_wp2_with fail
            refine hK.out _ _ ?_ (fun hHeld => ?_)
            ·exact HS.out _ (bb.trans (bn.mono bb.size))
            clear hK K
            try conv => arg 8; simp only [Act.put, List.setIfInBounds_toArray, List.set_cons_zero, List.set_cons_succ]
            replace bb := bb.trans (bn.mono bb.size)
            clear bn
            refine tkB 6 (v := ?_) (by assumption) ?_ ?_
            rotate_left 1
            ·intro w hSw; (try dsimp only at hSw); go_simp; try with_reducible rfl
            refine tkB 9 (v := ?_) (by assumption) ?_ ?_
            rotate_left 1
            ·intro w hSw; (try dsimp only at hSw); go_simp; try with_reducible rfl
            refine wpAnyH_done (by kernel_rfl) ?_ _

            have hpd := HPC.out.call bb
            have kQ3 := kQ2.below bb kQ2.lt
            have hRQ3 : Rd V1 (fun b => w5.heap.size ≤ b ∧ b < V1.heap.size ∧ b ≠ gq) A qn' (gls q.2) := hRQ2.mono (fun b hb => ⟨hb.1, Nat.lt_of_lt_of_le hb.2.1 bb.size, hb.2.2⟩) (fun b hb => bb.block b hb.2.1)
            have bV3 := bV2.trans (bb.mono bV2.size)
            clear HPC kQ2 hRQ2 bV2 HS hHeld bb HBI u3 v2 v3 kPc kP hor hlc
            obtain ⟨o1, ho1⟩ : ∃ o, p.2 ||| bt' = o := ⟨_, rfl⟩
            obtain ⟨o2, ho2⟩ : ∃ o, p.2 ||| ey = o := ⟨_, rfl⟩
            have ho264 : o2 < 18446744073709551616 := by rw [← ho2]; exact Nat.or_lt_two_pow (n := 64) HPG.out.b hey64
            rw [ho1]
            rw [ho2] at kQ3 HSTP ⊢
            have HO1 := Lib.hid ho1
            clear ho1 ho2
            by_cases hbad : o1 = o2
            ·have t7 : ((o1 : Int) != (o2 : Int)) = false := by simp; omega
             have t7' : (o1 != o2) = false := by simpa using hbad
             have t8 : decide ((o1 : Int) ≠ (o2 : Int)) = false := by simp; omega
             have HOK := Lib.hid (show p.2 ||| (bitD ends) ((stepD (rowsD back rs) acls tab) p.1 (j : Int)) = (stepT (stepD (rowsD back rs) acls tab) (dueD (rowsD back rs)) p (j : Int)).2 by rw [HBC.out, HO1.out, HSTP.out]; exact hbad)
             clear hbad HBC HO1
             have hql : q.2.length = qn' := by have := hRQ3.len; rw [gls_len] at this; exact this
             have hn1 := hhd.1
             have hn2 := hhd.2
             have v1 := box_cells kQ3 1 rfl
             have f0 := kQ3.frozen 0
             have f1 := kQ3.frozen 1
             have v0 := box_cells kQ3 0 rfl
             have HQL := Lib.hid hql
             clear hql
             go_upto_if 95 with fail
             go_cut [18] (fun tv wx => ∃ (m : Nat) (yB : Option Addr) (ym yd : Nat), tv = .pointer (some ⟨gq, 0, none⟩) ∧ Bk wx gq 190 #[.int .i64 (m : Int), .slice yB ym yd, .int .i64 at', .int .u64 (o2 : Int)] ∧ m = (normD q).1 ∧ Rd wx (fun b => w5.heap.size ≤ b ∧ b < wx.heap.size ∧ b ≠ gq) yB ym (gls (normD q).2) ∧ Hd ym yd ∧ Below w5.heap.size w5 wx)
             case first =>
              as_aux_lemma =>
               by_cases hq0 : qn' = 0
               ·have t9 : ((qn' : Int) == 0) = true := by simp; omega
                have t9' : (qn' == 0) = true := by simpa using hq0
                have hnq : normD q = (0, []) := by unfold normD; rw [if_pos (List.eq_nil_of_length_eq_zero (by rw [HQL.out]; exact hq0))]
                have HNN := Lib.hid hnq
                have kN2 : Bk ((V1.setCell ⟨gq, 0, none⟩ (.int .i64 0)).setCell ⟨gq, 1, none⟩ (.slice none 0 0)) gq 190 #[.int .i64 ((0 : Nat) : Int), .slice none 0 0, .int .i64 at', .int .u64 (o2 : Int)] := by
                 have h0 : Bk (V1.setCell ⟨gq, 0, none⟩ (.int .i64 0)) gq 190 #[.int .i64 0, .slice A qn' c, .int .i64 at', .int .u64 (o2 : Int)] := kQ3.set_ 0 _
                 exact h0.set_ 1 _
                have bV4 := (bV3.setCell (p := ⟨gq, 0, none⟩) hge (.int .i64 0)).setCell (p := ⟨gq, 1, none⟩) hge (.slice none 0 0)
                clear hnq hq0 hRQ3
                go_wp2_with fail
                go_meet
                exact ⟨0, none, 0, 0, rfl, kN2, by rw [HNN.out], by rw [HNN.out]; exact SlE.nil, ⟨Nat.le_refl _, by omega⟩, bV4⟩
               ·have t9 : ((qn' : Int) == 0) = false := by simp; omega
                have t9' : (qn' == 0) = false := by simpa using hq0
                have hnq : normD q = q := by unfold normD; rw [if_neg (fun e => hq0 (by rw [← HQL.out, e]; rfl))]
                have HNN := Lib.hid hnq
                clear hnq hq0
                go_wp2_with fail
                go_meet
                exact ⟨q.1, A, qn', c, rfl, kQ3, by rw [HNN.out], by rw [HNN.out]; exact hRQ3, hhd, bV3⟩
             case rest =>
              as_aux_lemma =>
               obtain ⟨m', yB, ym, yd, rfl, kY, hmy, hRY, hyd, bY⟩ := hcut
               clear v0 v1 f0 f1 kQ3 hRQ3 bV3 hpd hn1 hn2 hhd HQL
               obtain ⟨y, hy⟩ : ∃ y, stepT (stepD (rowsD back rs) acls tab) (dueD (rowsD back rs)) p (j : Int) = y := ⟨_, rfl⟩
               have hyy : y = ((normD q, at'), o2) := by rw [← hy]; exact HSTP.out
               have hy1 : y.1.1 = normD q := by rw [hyy]
               have hy2 : y.1.2 = at' := by rw [hyy]
               have hy3 : y.2 = o2 := by rw [hyy]
               rw [← hy1] at hmy hRY
               rw [hmy, ← hy2, ← hy3] at kY
               have HGY := Lib.hid (show PGood back rs y from ⟨by rw [hy1]; exact HNQ.out.1, by rw [hy1]; exact HNQ.out.2, by rw [hy2, ← HAT.out]; exact stepA_ge _ _, by rw [hy3]; exact ho264⟩)
               have HY := Lib.hid hy
               clear hyy hy1 hy2 hy3 hmy ho264 HNQ hy
               have hpy := HP5.out.call bY
               have hly := hpy.bl
               have hyl : ym ≤ 1000 := by have h1 := hRY.len; rw [gls_len] at h1; have h2 := HGY.out.s.len; have h3 := HSM.out.n; omega
               generalize hwy : wc = wy at *
               clear hwy wc
               have HPY := Lib.hid hpy
               clear hpy
               go_upto_region 22 with fail
               go_loopw [19, 20] (fun kv iv wr => ∃ (kb : Bool) (k : Nat), k ≤ n ∧ kv = .bool kb ∧ iv = .int .i64 k ∧ kb = decide (y ∈ ps.take k) ∧ Below wy.heap.size wy wr) (fun _ iv _ => n - (intOf iv).toNat)
               case atStart => exact ⟨false, 0, by omega, rfl, rfl, by simp, Below.refl _ _⟩
               case round =>
                obtain ⟨kb, k, hkn, rfl, rfl, hkb, bk⟩ := hrel
                have HKB := Lib.hid hkb
                clear hkb
                have hpk := HPY.out.call bk
                have kYk := kY.below bk kY.lt
                by_cases hlk : k < n
                ·obtain ⟨x, hx⟩ := at_some ps k (by have := hpk.len; omega)
                 obtain ⟨ga', xB, xm, xd, haa, a0, a1, a2, a3, hxE⟩ := hpk.at hx
                 injection haa with haa; injection haa with haa
                 subst haa
                 have kz : (0 : Int) ≤ (k : Int) := by omega
                 have kn : (k : Int) < (n : Int) := by omega
                 have HMT := Lib.hid (mem_take_succ (y := y) hx)
                 have b0 := box_cells kYk 0 rfl
                 have b1 := box_cells kYk 1 rfl
                 have b2 := box_cells kYk 2 rfl
                 have b3 := box_cells kYk 3 rfl
                 obtain ⟨xB', xm', xd', hxe, hRX, hxd⟩ := hxE
                 injection hxe with _ hxe; injection hxe with hxe _; injection hxe with e1 e2 e3
                 subst e1; subst e2; subst e3
                 have hxl : xm ≤ 1000 := by have h1 := hRX.len; rw [gls_len] at h1; have h2 := (HGD.out x (List.mem_of_getElem? hx)).s.len; have h3 := HSM.out.n; omega
                 have hRYk : Rd wr (lo wr.heap.size) yB ym (gls y.1.1.2) := hRY.mono (fun b hb => Nat.lt_of_lt_of_le hb.2.1 bk.size) (fun b hb => bk.block b hb.2.1)
                 have HSA := Lib.hid fun (W : World) (bW : Below wr.heap.size wr W) => same_g xB yB xm ym xd yd (gls x.1.1.2) (gls y.1.1.2) W (hRX.call bW) (hRYk.call bW) (by omega) (by omega)
                 clear hx hRX hRYk hpk kYk
                 go_upto_region 24 with fail
                 cases kb with
                 | true =>
                  have HKB2 := Lib.hid (show true = decide (y ∈ ps.take (k + 1)) by
                   have := HKB.out; symm; rw [decide_eq_true_iff, HMT.out]; left; simpa using this.symm)
                  clear HKB HMT HSA
                  have HS := Lib.hid fun (W : World) (bW : Below wr.heap.size wr W) => (show W.cell? ⟨ga, k * 4, none⟩ = some (.int .i64 (x.1.1.1 : Int)) ∧ W.cell? ⟨ga, k * 4 + 1, none⟩ = some (.slice xB xm xd) ∧ W.cell? ⟨ga, k * 4 + 2, none⟩ = some (.int .i64 x.1.2) ∧ W.cell? ⟨ga, k * 4 + 3, none⟩ = some (.int .u64 (x.2 : Int)) ∧ W.cell? ⟨gq, 0, none⟩ = some (.int .i64 (y.1.1.1 : Int)) ∧ W.cell? ⟨gq, 1, none⟩ = some (.slice yB ym yd) ∧ W.cell? ⟨gq, 2, none⟩ = some (.int .i64 y.1.2) ∧ W.cell? ⟨gq, 3, none⟩ = some (.int .u64 (y.2 : Int)) from ⟨cell_call a0 bW, cell_call a1 bW, cell_call a2 bW, cell_call a3 bW, cell_call b0 bW, cell_call b1 bW, cell_call b2 bW, cell_call b3 bW⟩)
                  have bb := Below.refl wr.heap.size wr
                  refine wp_region_held_drew (S := fun w' => w'.cell? ⟨ga, k * 4, none⟩ = some (.int .i64 (x.1.1.1 : Int)) ∧ w'.cell? ⟨ga, k * 4 + 1, none⟩ = some (.slice xB xm xd) ∧ w'.cell? ⟨ga, k * 4 + 2, none⟩ = some (.int .i64 x.1.2) ∧ w'.cell? ⟨ga, k * 4 + 3, none⟩ = some (.int .u64 (x.2 : Int)) ∧ w'.cell? ⟨gq, 0, none⟩ = some (.int .i64 (y.1.1.1 : Int)) ∧ w'.cell? ⟨gq, 1, none⟩ = some (.slice yB ym yd) ∧ w'.cell? ⟨gq, 2, none⟩ = some (.int .i64 y.1.2) ∧ w'.cell? ⟨gq, 3, none⟩ = some (.int .u64 (y.2 : Int))) (by kernel_rfl) ?_ (fun hHeld => ?_)
                  ·exact HS.out _ (below_drewN bb 1)
                  replace bb := below_drewN bb 1
                  change Below _ _ wr.drew at bb
                  generalize hw0 : wr.drew = W0 at hHeld bb ⊢
                  clear hw0
                  refine tkB 0 (v := ?_) (by assumption) ?_ ?_
                  rotate_left 1
                  ·intro w hSw; (try dsimp only at hSw); go_simp; try with_reducible rfl
                  refine tkB 1 (v := ?_) (by assumption) ?_ ?_
                  rotate_left 1
                  ·intro w hSw; (try dsimp only at hSw); go_simp; try with_reducible rfl
                  refine skB 2 (by assumption) ?_
                  refine skB 3 (by assumption) ?_
                  refine skB 4 (by assumption) ?_
                  refine skB 5 (by assumption) ?_
                  refine skB 6 (by assumption) ?_
                  refine skB 7 (by assumption) ?_
                  refine skB 8 (by assumption) ?_
                  refine skB 9 (by assumption) ?_
                  refine skB 10 (by assumption) ?_
                  refine skB 11 (by assumption) ?_
                  refine skB 12 (by assumption) ?_
                  refine skB 13 (by assumption) ?_
                  refine skB 14 (by assumption) ?_
                  refine skB 15 (by assumption) ?_
                  refine skB 16 (by assumption) ?_
                  refine skB 17 (by assumption) ?_
                  refine skB 18 (by assumption) ?_
                  refine skB 19 (by assumption) ?_
                  refine skB 20 (by assumption) ?_
                  refine skB 21 (by assumption) ?_
                  refine skB 22 (by assumption) ?_
                  refine skB 23 (by assumption) ?_
                  refine skB 24 (by assumption) ?_
                  refine skB 25 (by assumption) ?_
                  refine skB 26 (by assumption) ?_
                  refine skB 27 (by assumption) ?_
                  refine skB 28 (by assumption) ?_
                  refine skB 29 (by assumption) ?_
                  refine skB 30 (by assumption) ?_
                  refine skB 31 (by assumption) ?_
                  refine skB 32 (by assumption) ?_
                  refine skB 33 (by assumption) ?_
                  refine skB 34 (by assumption) ?_
                  refine skB 35 (by assumption) ?_
                  refine skB 36 (by assumption) ?_
                  refine skB 37 (by assumption) ?_
                  refine skB 38 (by assumption) ?_
                  refine skB 39 (by assumption) ?_
                  refine skB 40 (by assumption) ?_
                  refine skB 41 (by assumption) ?_
                  refine skB 42 (by assumption) ?_
                  refine skB 43 (by assumption) ?_
                  refine tkB 44 (v := ?_) (by assumption) ?_ ?_
                  rotate_left 1
                  ·intro w hSw; (try dsimp only at hSw); go_simp; try with_reducible rfl
                  refine tkB 45 (v := ?_) (by assumption) ?_ ?_
                  rotate_left 1
                  ·intro w hSw; (try dsimp only at hSw); go_simp; try with_reducible rfl
                  refine wpAnyH_done (by kernel_rfl) ?_ _

                  have bk2 := below_call bk bb
                  clear HS hHeld bb a0 a1 a2 a3 b0 b1 b2 b3
                  go_wp2_with fail
                  go_roundw
                  case rel => exact ⟨true, k + 1, by omega, rfl, by go_num, HKB2.out, bk2⟩
                  case measure => simp [intOf]; omega
                 | false =>
                  have HKN := Lib.hid (show ¬ y ∈ ps.take k by have := HKB.out; simpa using this.symm)
                  clear HKB
                  by_cases ha : x.1.2 = y.1.2
                  ·have s1 : (x.1.2 == y.1.2) = true := by simpa using ha
                   by_cases hbb : x.2 = y.2
                   ·have s2 : ((x.2 : Int) == (y.2 : Int)) = true := by simp; omega
                    by_cases hm : x.1.1.1 = y.1.1.1
                    ·have s3 : ((x.1.1.1 : Int) == (y.1.1.1 : Int)) = true := by simp; omega
                     by_cases hl : x.1.1.2 = y.1.1.2
                     ·have hxy : x = y := Prod.ext (Prod.ext (Prod.ext hm hl) ha) hbb
                      have HD2 := Lib.hid (show decide (gls x.1.1.2 = gls y.1.1.2) = true by rw [hl]; simp)
                      rw [HD2.out] at HSA
                      have HKB2 := Lib.hid (show true = decide (y ∈ ps.take (k + 1)) by symm; rw [decide_eq_true_iff, HMT.out]; exact .inr hxy)
                      clear hxy ha hbb hm hl HKN HMT HD2
                      have HS := Lib.hid fun (W : World) (bW : Below wr.heap.size wr W) => (show W.cell? ⟨ga, k * 4, none⟩ = some (.int .i64 (x.1.1.1 : Int)) ∧ W.cell? ⟨ga, k * 4 + 1, none⟩ = some (.slice xB xm xd) ∧ W.cell? ⟨ga, k * 4 + 2, none⟩ = some (.int .i64 x.1.2) ∧ W.cell? ⟨ga, k * 4 + 3, none⟩ = some (.int .u64 (x.2 : Int)) ∧ W.cell? ⟨gq, 0, none⟩ = some (.int .i64 (y.1.1.1 : Int)) ∧ W.cell? ⟨gq, 1, none⟩ = some (.slice yB ym yd) ∧ W.cell? ⟨gq, 2, none⟩ = some (.int .i64 y.1.2) ∧ W.cell? ⟨gq, 3, none⟩ = some (.int .u64 (y.2 : Int)) from ⟨cell_call a0 bW, cell_call a1 bW, cell_call a2 bW, cell_call a3 bW, cell_call b0 bW, cell_call b1 bW, cell_call b2 bW, cell_call b3 bW⟩)
                      have bb := Below.refl wr.heap.size wr
                      refine wp_region_held_drew (S := fun w' => w'.cell? ⟨ga, k * 4, none⟩ = some (.int .i64 (x.1.1.1 : Int)) ∧ w'.cell? ⟨ga, k * 4 + 1, none⟩ = some (.slice xB xm xd) ∧ w'.cell? ⟨ga, k * 4 + 2, none⟩ = some (.int .i64 x.1.2) ∧ w'.cell? ⟨ga, k * 4 + 3, none⟩ = some (.int .u64 (x.2 : Int)) ∧ w'.cell? ⟨gq, 0, none⟩ = some (.int .i64 (y.1.1.1 : Int)) ∧ w'.cell? ⟨gq, 1, none⟩ = some (.slice yB ym yd) ∧ w'.cell? ⟨gq, 2, none⟩ = some (.int .i64 y.1.2) ∧ w'.cell? ⟨gq, 3, none⟩ = some (.int .u64 (y.2 : Int))) (by kernel_rfl) ?_ (fun hHeld => ?_)
                      ·exact HS.out _ (below_drewN bb 1)
                      replace bb := below_drewN bb 1
                      change Below _ _ wr.drew at bb
                      generalize hw0 : wr.drew = W0 at hHeld bb ⊢
                      clear hw0
                      refine tkB 0 (v := ?_) (by assumption) ?_ ?_
                      rotate_left 1
                      ·intro w hSw; (try dsimp only at hSw); go_simp; try with_reducible rfl
                      refine tkB 1 (v := ?_) (by assumption) ?_ ?_
                      rotate_left 1
                      ·intro w hSw; (try dsimp only at hSw); go_simp; try with_reducible rfl
                      refine tkB 2 (v := ?_) (by assumption) ?_ ?_
                      rotate_left 1
                      ·intro w hSw; (try dsimp only at hSw); go_simp; try with_reducible rfl
                      refine tkB 3 (v := ?_) (by assumption) ?_ ?_
                      rotate_left 1
                      ·intro w hSw; (try dsimp only at hSw); go_simp; try with_reducible rfl
                      refine tkB 4 (v := ?_) (by assumption) ?_ ?_
                      rotate_left 1
                      ·intro w hSw; (try dsimp only at hSw); go_simp; try with_reducible rfl
                      refine tkB 5 (v := ?_) (by assumption) ?_ ?_
                      rotate_left 1
                      ·intro w hSw; (try dsimp only at hSw); go_simp; try with_reducible rfl
                      refine tkB 6 (v := ?_) (by assumption) ?_ ?_
                      rotate_left 1
                      ·intro w hSw; (try dsimp only at hSw); go_simp; try with_reducible rfl
                      refine tkB 7 (v := ?_) (by assumption) ?_ ?_
                      rotate_left 1
                      ·intro w hSw; (try dsimp only at hSw); go_simp; try with_reducible rfl
                      refine tkB 8 (v := ?_) (by assumption) ?_ ?_
                      rotate_left 1
                      ·intro w hSw; (try dsimp only at hSw); go_simp; try with_reducible rfl
                      refine tkB 9 (v := ?_) (by assumption) ?_ ?_
                      rotate_left 1
                      ·intro w hSw; (try dsimp only at hSw); go_simp; try with_reducible rfl
                      refine tkB 10 (v := ?_) (by assumption) ?_ ?_
                      rotate_left 1
                      ·intro w hSw; (try dsimp only at hSw); go_simp; try with_reducible rfl
                      refine tkB 11 (v := ?_) (by assumption) ?_ ?_
                      rotate_left 1
                      ·intro w hSw; (try dsimp only at hSw); go_simp; try with_reducible rfl
                      refine tkB 12 (v := ?_) (by assumption) ?_ ?_
                      rotate_left 1
                      ·intro w hSw; (try dsimp only at hSw); go_simp; try with_reducible rfl
                      refine tkB 13 (v := ?_) (by assumption) ?_ ?_
                      rotate_left 1
                      ·intro w hSw; (try dsimp only at hSw); go_simp; try with_reducible rfl
                      refine tkB 14 (v := ?_) (by assumption) ?_ ?_
                      rotate_left 1
                      ·intro w hSw; (try dsimp only at hSw); go_simp; try with_reducible rfl
                      refine tkB 15 (v := ?_) (by assumption) ?_ ?_
                      rotate_left 1
                      ·intro w hSw; (try dsimp only at hSw); go_simp; try with_reducible rfl
                      refine tkB 16 (v := ?_) (by assumption) ?_ ?_
                      rotate_left 1
                      ·intro w hSw; (try dsimp only at hSw); go_simp; try with_reducible rfl
                      refine tkB 17 (v := ?_) (by assumption) ?_ ?_
                      rotate_left 1
                      ·intro w hSw; (try dsimp only at hSw); go_simp; try with_reducible rfl
                      refine tkB 18 (v := ?_) (by assumption) ?_ ?_
                      rotate_left 1
                      ·intro w hSw; (try dsimp only at hSw); go_simp; try with_reducible rfl
                      refine tkB 19 (v := ?_) (by assumption) ?_ ?_
                      rotate_left 1
                      ·intro w hSw; (try dsimp only at hSw); go_simp; try with_reducible rfl
                      refine tkB 20 (v := ?_) (by assumption) ?_ ?_
                      rotate_left 1
                      ·intro w hSw; (try dsimp only at hSw); go_simp; try with_reducible rfl
                      refine tkB 21 (v := ?_) (by assumption) ?_ ?_
                      rotate_left 1
                      ·intro w hSw; (try dsimp only at hSw); go_simp; try with_reducible rfl
                      refine tkB 22 (v := ?_) (by assumption) ?_ ?_
                      rotate_left 1
                      ·intro w hSw; (try dsimp only at hSw); go_simp; try with_reducible rfl
                      refine tkB 23 (v := ?_) (by assumption) ?_ ?_
                      rotate_left 1
                      ·intro w hSw; (try dsimp only at hSw); go_simp; try with_reducible rfl
                      refine tkB 24 (v := ?_) (by assumption) ?_ ?_
                      rotate_left 1
                      ·intro w hSw; (try dsimp only at hSw); go_simp; try with_reducible rfl
                      refine tkB 25 (v := ?_) (by assumption) ?_ ?_
                      rotate_left 1
                      ·intro w hSw; (try dsimp only at hSw); go_simp; try with_reducible rfl
                      refine tkB 26 (v := ?_) (by assumption) ?_ ?_
                      rotate_left 1
                      ·intro w hSw; (try dsimp only at hSw); go_simp; try with_reducible rfl
                      refine tkB 27 (v := ?_) (by assumption) ?_ ?_
                      rotate_left 1
                      ·intro w hSw; (try dsimp only at hSw); go_simp; try with_reducible rfl
                      refine tkB 28 (v := ?_) (by assumption) ?_ ?_
                      rotate_left 1
                      ·intro w hSw; (try dsimp only at hSw); go_simp; try with_reducible rfl
                      refine tkB 29 (v := ?_) (by assumption) ?_ ?_
                      rotate_left 1
                      ·intro w hSw; (try dsimp only at hSw); go_simp; try with_reducible rfl
                      refine tkB 30 (v := ?_) (by assumption) ?_ ?_
                      rotate_left 1
                      ·intro w hSw; (try dsimp only at hSw); go_simp; try with_reducible rfl
                      refine tkB 31 (v := ?_) (by assumption) ?_ ?_
                      rotate_left 1
                      ·intro w hSw; (try dsimp only at hSw); go_simp; try with_reducible rfl
                      refine tkB 32 (v := ?_) (by assumption) ?_ ?_
                      rotate_left 1
                      ·intro w hSw; (try dsimp only at hSw); go_simp; try with_reducible rfl
                      refine tkB 33 (v := ?_) (by assumption) ?_ ?_
                      rotate_left 1
                      ·intro w hSw; (try dsimp only at hSw); go_simp; try with_reducible rfl
                      refine tkB 34 (v := ?_) (by assumption) ?_ ?_
                      rotate_left 1
                      ·intro w hSw; (try dsimp only at hSw); go_simp; try with_reducible rfl
                      refine tkB 35 (v := ?_) (by assumption) ?_ ?_
                      rotate_left 1
                      ·intro w hSw; (try dsimp only at hSw); go_simp; try with_reducible rfl
                      refine tkB 36 (v := ?_) (by assumption) ?_ ?_
                      rotate_left 1
                      ·intro w hSw; (try dsimp only at hSw); go_simp; try with_reducible rfl
                      refine tkB 37 (v := ?_) (by assumption) ?_ ?_
                      rotate_left 1
                      ·intro w hSw; (try dsimp only at hSw); go_simp; try with_reducible rfl
                      refine tkB 38 (v := ?_) (by assumption) ?_ ?_
                      rotate_left 1
                      ·intro w hSw; (try dsimp only at hSw); go_simp; try with_reducible rfl
                      refine tkB 39 (v := ?_) (by assumption) ?_ ?_
                      rotate_left 1
                      ·intro w hSw; (try dsimp only at hSw); go_simp; try with_reducible rfl
                      refine tkB 40 (v := ?_) (by assumption) ?_ ?_
                      rotate_left 1
                      ·intro w hSw; (try dsimp only at hSw); go_simp; try with_reducible rfl
                      refine tkB 41 (v := ?_) (by assumption) ?_ ?_
                      rotate_left 1
                      ·intro w hSw; (try dsimp only at hSw); go_simp; try with_reducible rfl
                      refine wpAnyH_ready (rs := [42]) (by kernel_rfl) (by simp) ?_
                      refine AllReadyH.cons (by simp only [List.getElem?_toArray]; rfl) (fun K hK => ?_) AllReadyH.nil
                      refine wanted_pos (by kernel_rfl) ?_
                      go_simp
                      clear hHeld
                      go_at_call 51
                      (with_reducible refine (HSA.out _ bb).mono ?_)
                      rintro e V1 ⟨rfl, bn⟩
                      go_wp2_with fail
                      refine hK.out _ _ ?_ (fun hHeld => ?_)
                      ·exact HS.out _ (bb.trans (bn.mono bb.size))
                      clear hK K
                      try conv => arg 8; simp only [Act.put, List.setIfInBounds_toArray, List.set_cons_zero, List.set_cons_succ]
                      replace bb := bb.trans (bn.mono bb.size)
                      clear bn
                      refine tkB 43 (v := ?_) (by assumption) ?_ ?_
                      rotate_left 1
                      ·intro w hSw; (try dsimp only at hSw); go_simp; try with_reducible rfl
                      refine tkB 44 (v := ?_) (by assumption) ?_ ?_
                      rotate_left 1
                      ·intro w hSw; (try dsimp only at hSw); go_simp; try with_reducible rfl
                      refine tkB 45 (v := ?_) (by assumption) ?_ ?_
                      rotate_left 1
                      ·intro w hSw; (try dsimp only at hSw); go_simp; try with_reducible rfl
                      refine wpAnyH_done (by kernel_rfl) ?_ _

                      have bk2 := below_call bk bb
                      clear HS hHeld bb a0 a1 a2 a3 b0 b1 b2 b3
                      go_wp2_with fail
                      go_roundw
                      case rel => exact ⟨true, k + 1, by omega, rfl, by go_num, HKB2.out, bk2⟩
                      case measure => simp [intOf]; omega
                     ·have HD2 := Lib.hid (show decide (gls x.1.1.2 = gls y.1.1.2) = false by rw [decide_eq_false_iff_not]; exact fun e => hl (gls_inj e))
                      rw [HD2.out] at HSA
                      have HKB2 := Lib.hid (show false = decide (y ∈ ps.take (k + 1)) by symm; rw [decide_eq_false_iff_not, HMT.out]; rintro (h | h); exact HKN.out h; exact hl (by rw [h]))
                      clear ha hbb hm hl HKN HMT HD2
                      have HS := Lib.hid fun (W : World) (bW : Below wr.heap.size wr W) => (show W.cell? ⟨ga, k * 4, none⟩ = some (.int .i64 (x.1.1.1 : Int)) ∧ W.cell? ⟨ga, k * 4 + 1, none⟩ = some (.slice xB xm xd) ∧ W.cell? ⟨ga, k * 4 + 2, none⟩ = some (.int .i64 x.1.2) ∧ W.cell? ⟨ga, k * 4 + 3, none⟩ = some (.int .u64 (x.2 : Int)) ∧ W.cell? ⟨gq, 0, none⟩ = some (.int .i64 (y.1.1.1 : Int)) ∧ W.cell? ⟨gq, 1, none⟩ = some (.slice yB ym yd) ∧ W.cell? ⟨gq, 2, none⟩ = some (.int .i64 y.1.2) ∧ W.cell? ⟨gq, 3, none⟩ = some (.int .u64 (y.2 : Int)) from ⟨cell_call a0 bW, cell_call a1 bW, cell_call a2 bW, cell_call a3 bW, cell_call b0 bW, cell_call b1 bW, cell_call b2 bW, cell_call b3 bW⟩)
                      have bb := Below.refl wr.heap.size wr
                      refine wp_region_held_drew (S := fun w' => w'.cell? ⟨ga, k * 4, none⟩ = some (.int .i64 (x.1.1.1 : Int)) ∧ w'.cell? ⟨ga, k * 4 + 1, none⟩ = some (.slice xB xm xd) ∧ w'.cell? ⟨ga, k * 4 + 2, none⟩ = some (.int .i64 x.1.2) ∧ w'.cell? ⟨ga, k * 4 + 3, none⟩ = some (.int .u64 (x.2 : Int)) ∧ w'.cell? ⟨gq, 0, none⟩ = some (.int .i64 (y.1.1.1 : Int)) ∧ w'.cell? ⟨gq, 1, none⟩ = some (.slice yB ym yd) ∧ w'.cell? ⟨gq, 2, none⟩ = some (.int .i64 y.1.2) ∧ w'.cell? ⟨gq, 3, none⟩ = some (.int .u64 (y.2 : Int))) (by kernel_rfl) ?_ (fun hHeld => ?_)
                      ·exact HS.out _ (below_drewN bb 1)
                      replace bb := below_drewN bb 1
                      change Below _ _ wr.drew at bb
                      generalize hw0 : wr.drew = W0 at hHeld bb ⊢
                      clear hw0
                      refine tkB 0 (v := ?_) (by assumption) ?_ ?_
                      rotate_left 1
                      ·intro w hSw; (try dsimp only at hSw); go_simp; try with_reducible rfl
                      refine tkB 1 (v := ?_) (by assumption) ?_ ?_
                      rotate_left 1
                      ·intro w hSw; (try dsimp only at hSw); go_simp; try with_reducible rfl
                      refine tkB 2 (v := ?_) (by assumption) ?_ ?_
                      rotate_left 1
                      ·intro w hSw; (try dsimp only at hSw); go_simp; try with_reducible rfl
                      refine tkB 3 (v := ?_) (by assumption) ?_ ?_
                      rotate_left 1
                      ·intro w hSw; (try dsimp only at hSw); go_simp; try with_reducible rfl
                      refine tkB 4 (v := ?_) (by assumption) ?_ ?_
                      rotate_left 1
                      ·intro w hSw; (try dsimp only at hSw); go_simp; try with_reducible rfl
                      refine tkB 5 (v := ?_) (by assumption) ?_ ?_
                      rotate_left 1
                      ·intro w hSw; (try dsimp only at hSw); go_simp; try with_reducible rfl
                      refine tkB 6 (v := ?_) (by assumption) ?_ ?_
                      rotate_left 1
                      ·intro w hSw; (try dsimp only at hSw); go_simp; try with_reducible rfl
                      refine tkB 7 (v := ?_) (by assumption) ?_ ?_
                      rotate_left 1
                      ·intro w hSw; (try dsimp only at hSw); go_simp; try with_reducible rfl
                      refine tkB 8 (v := ?_) (by assumption) ?_ ?_
                      rotate_left 1
                      ·intro w hSw; (try dsimp only at hSw); go_simp; try with_reducible rfl
                      refine tkB 9 (v := ?_) (by assumption) ?_ ?_
                      rotate_left 1
                      ·intro w hSw; (try dsimp only at hSw); go_simp; try with_reducible rfl
                      refine tkB 10 (v := ?_) (by assumption) ?_ ?_
                      rotate_left 1
                      ·intro w hSw; (try dsimp only at hSw); go_simp; try with_reducible rfl
                      refine tkB 11 (v := ?_) (by assumption) ?_ ?_
                      rotate_left 1
                      ·intro w hSw; (try dsimp only at hSw); go_simp; try with_reducible rfl
                      refine tkB 12 (v := ?_) (by assumption) ?_ ?_
                      rotate_left 1
                      ·intro w hSw; (try dsimp only at hSw); go_simp; try with_reducible rfl
                      refine tkB 13 (v := ?_) (by assumption) ?_ ?_
                      rotate_left 1
                      ·intro w hSw; (try dsimp only at hSw); go_simp; try with_reducible rfl
                      refine tkB 14 (v := ?_) (by assumption) ?_ ?_
                      rotate_left 1
                      ·intro w hSw; (try dsimp only at hSw); go_simp; try with_reducible rfl
                      refine tkB 15 (v := ?_) (by assumption) ?_ ?_
                      rotate_left 1
                      ·intro w hSw; (try dsimp only at hSw); go_simp; try with_reducible rfl
                      refine tkB 16 (v := ?_) (by assumption) ?_ ?_
                      rotate_left 1
                      ·intro w hSw; (try dsimp only at hSw); go_simp; try with_reducible rfl
                      refine tkB 17 (v := ?_) (by assumption) ?_ ?_
                      rotate_left 1
                      ·intro w hSw; (try dsimp only at hSw); go_simp; try with_reducible rfl
                      refine tkB 18 (v := ?_) (by assumption) ?_ ?_
                      rotate_left 1
                      ·intro w hSw; (try dsimp only at hSw); go_simp; try with_reducible rfl
                      refine tkB 19 (v := ?_) (by assumption) ?_ ?_
                      rotate_left 1
                      ·intro w hSw; (try dsimp only at hSw); go_simp; try with_reducible rfl
                      refine tkB 20 (v := ?_) (by assumption) ?_ ?_
                      rotate_left 1
                      ·intro w hSw; (try dsimp only at hSw); go_simp; try with_reducible rfl
                      refine tkB 21 (v := ?_) (by assumption) ?_ ?_
                      rotate_left 1
                      ·intro w hSw; (try dsimp only at hSw); go_simp; try with_reducible rfl
                      refine tkB 22 (v := ?_) (by assumption) ?_ ?_
                      rotate_left 1
                      ·intro w hSw; (try dsimp only at hSw); go_simp; try with_reducible rfl
                      refine tkB 23 (v := ?_) (by assumption) ?_ ?_
                      rotate_left 1
                      ·intro w hSw; (try dsimp only at hSw); go_simp; try with_reducible rfl
                      refine tkB 24 (v := ?_) (by assumption) ?_ ?_
                      rotate_left 1
                      ·intro w hSw; (try dsimp only at hSw); go_simp; try with_reducible rfl
                      refine tkB 25 (v := ?_) (by assumption) ?_ ?_
                      rotate_left 1
                      ·intro w hSw; (try dsimp only at hSw); go_simp; try with_reducible rfl
                      refine tkB 26 (v := ?_) (by assumption) ?_ ?_
                      rotate_left 1
                      ·intro w hSw; (try dsimp only at hSw); go_simp; try with_reducible rfl
                      refine tkB 27 (v := ?_) (by assumption) ?_ ?_
                      rotate_left 1
                      ·intro w hSw; (try dsimp only at hSw); go_simp; try with_reducible rfl
                      refine tkB 28 (v := ?_) (by assumption) ?_ ?_
                      rotate_left 1
                      ·intro w hSw; (try dsimp only at hSw); go_simp; try with_reducible rfl
                      refine tkB 29 (v := ?_) (by assumption) ?_ ?_
                      rotate_left 1
                      ·intro w hSw; (try dsimp only at hSw); go_simp; try with_reducible rfl
                      refine tkB 30 (v := ?_) (by assumption) ?_ ?_
                      rotate_left 1
                      ·intro w hSw; (try dsimp only at hSw); go_simp; try with_reducible rfl
                      refine tkB 31 (v := ?_) (by assumption) ?_ ?_
                      rotate_left 1
                      ·intro w hSw; (try dsimp only at hSw); go_simp; try with_reducible rfl
                      refine tkB 32 (v := ?_) (by assumption) ?_ ?_
                      rotate_left 1
                      ·intro w hSw; (try dsimp only at hSw); go_simp; try with_reducible rfl
                      refine tkB 33 (v := ?_) (by assumption) ?_ ?_
                      rotate_left 1
                      ·intro w hSw; (try dsimp only at hSw); go_simp; try with_reducible rfl
                      refine tkB 34 (v := ?_) (by assumption) ?_ ?_
                      rotate_left 1
                      ·intro w hSw; (try dsimp only at hSw); go_simp; try with_reducible rfl
                      refine tkB 35 (v := ?_) (by assumption) ?_ ?_
                      rotate_left 1
                      ·intro w hSw; (try dsimp only at hSw); go_simp; try with_reducible rfl
                      refine tkB 36 (v := ?_) (by assumption) ?_ ?_
                      rotate_left 1
                      ·intro w hSw; (try dsimp only at hSw); go_simp; try with_reducible rfl
                      refine tkB 37 (v := ?_) (by assumption) ?_ ?_
                      rotate_left 1
                      ·intro w hSw; (try dsimp only at hSw); go_simp; try with_reducible rfl
                      refine tkB 38 (v := ?_) (by assumption) ?_ ?_
                      rotate_left 1
                      ·intro w hSw; (try dsimp only at hSw); go_simp; try with_reducible rfl
                      refine tkB 39 (v := ?_) (by assumption) ?_ ?_
                      rotate_left 1
                      ·intro w hSw; (try dsimp only at hSw); go_simp; try with_reducible rfl
                      refine tkB 40 (v := ?_) (by assumption) ?_ ?_
                      rotate_left 1
                      ·intro w hSw; (try dsimp only at hSw); go_simp; try with_reducible rfl
                      refine tkB 41 (v := ?_) (by assumption) ?_ ?_
                      rotate_left 1
                      ·intro w hSw; (try dsimp only at hSw); go_simp; try with_reducible rfl
                      refine wpAnyH_ready (rs := [42]) (by kernel_rfl) (by simp) ?_
                      refine AllReadyH.cons (by simp only [List.getElem?_toArray]; rfl) (fun K hK => ?_) AllReadyH.nil
                      refine wanted_pos (by kernel_rfl) ?_
                      go_simp
                      clear hHeld
                      go_at_call 51
                      (with_reducible refine (HSA.out _ bb).mono ?_)
                      rintro e V1 ⟨rfl, bn⟩
                      go_wp2_with fail
                      refine hK.out _ _ ?_ (fun hHeld => ?_)
                      ·exact HS.out _ (bb.trans (bn.mono bb.size))
                      clear hK K
                      try conv => arg 8; simp only [Act.put, List.setIfInBounds_toArray, List.set_cons_zero, List.set_cons_succ]
                      replace bb := bb.trans (bn.mono bb.size)
                      clear bn
                      refine tkB 43 (v := ?_) (by assumption) ?_ ?_
                      rotate_left 1
                      ·intro w hSw; (try dsimp only at hSw); go_simp; try with_reducible rfl
                      refine tkB 44 (v := ?_) (by assumption) ?_ ?_
                      rotate_left 1
                      ·intro w hSw; (try dsimp only at hSw); go_simp; try with_reducible rfl
                      refine tkB 45 (v := ?_) (by assumption) ?_ ?_
                      rotate_left 1
                      ·intro w hSw; (try dsimp only at hSw); go_simp; try with_reducible rfl
                      refine wpAnyH_done (by kernel_rfl) ?_ _

                      have bk2 := below_call bk bb
                      clear HS hHeld bb a0 a1 a2 a3 b0 b1 b2 b3
                      go_wp2_with fail
                      go_roundw
                      case rel => exact ⟨false, k + 1, by omega, rfl, by go_num, HKB2.out, bk2⟩
                      case measure => simp [intOf]; omega
                    ·have s3 : ((x.1.1.1 : Int) == (y.1.1.1 : Int)) = false := by simp; omega
                     have s3' : (x.1.1.1 == y.1.1.1) = false := by simpa using hm
                     have HKB2 := Lib.hid (show false = decide (y ∈ ps.take (k + 1)) by symm; rw [decide_eq_false_iff_not, HMT.out]; rintro (h | h); exact HKN.out h; exact hm (by rw [h]))
                     clear ha hbb hm HKN HMT HSA
                     have HS := Lib.hid fun (W : World) (bW : Below wr.heap.size wr W) => (show W.cell? ⟨ga, k * 4, none⟩ = some (.int .i64 (x.1.1.1 : Int)) ∧ W.cell? ⟨ga, k * 4 + 1, none⟩ = some (.slice xB xm xd) ∧ W.cell? ⟨ga, k * 4 + 2, none⟩ = some (.int .i64 x.1.2) ∧ W.cell? ⟨ga, k * 4 + 3, none⟩ = some (.int .u64 (x.2 : Int)) ∧ W.cell? ⟨gq, 0, none⟩ = some (.int .i64 (y.1.1.1 : Int)) ∧ W.cell? ⟨gq, 1, none⟩ = some (.slice yB ym yd) ∧ W.cell? ⟨gq, 2, none⟩ = some (.int .i64 y.1.2) ∧ W.cell? ⟨gq, 3, none⟩ = some (.int .u64 (y.2 : Int)) from ⟨cell_call a0 bW, cell_call a1 bW, cell_call a2 bW, cell_call a3 bW, cell_call b0 bW, cell_call b1 bW, cell_call b2 bW, cell_call b3 bW⟩)
                     have bb := Below.refl wr.heap.size wr
                     refine wp_region_held_drew (S := fun w' => w'.cell? ⟨ga, k * 4, none⟩ = some (.int .i64 (x.1.1.1 : Int)) ∧ w'.cell? ⟨ga, k * 4 + 1, none⟩ = some (.slice xB xm xd) ∧ w'.cell? ⟨ga, k * 4 + 2, none⟩ = some (.int .i64 x.1.2) ∧ w'.cell? ⟨ga, k * 4 + 3, none⟩ = some (.int .u64 (x.2 : Int)) ∧ w'.cell? ⟨gq, 0, none⟩ = some (.int .i64 (y.1.1.1 : Int)) ∧ w'.cell? ⟨gq, 1, none⟩ = some (.slice yB ym yd) ∧ w'.cell? ⟨gq, 2, none⟩ = some (.int .i64 y.1.2) ∧ w'.cell? ⟨gq, 3, none⟩ = some (.int .u64 (y.2 : Int))) (by kernel_rfl) ?_ (fun hHeld => ?_)
                     ·exact HS.out _ (below_drewN bb 1)
                     replace bb := below_drewN bb 1
                     change Below _ _ wr.drew at bb
                     generalize hw0 : wr.drew = W0 at hHeld bb ⊢
                     clear hw0
                     refine tkB 0 (v := ?_) (by assumption) ?_ ?_
                     rotate_left 1
                     ·intro w hSw; (try dsimp only at hSw); go_simp; try with_reducible rfl
                     refine tkB 1 (v := ?_) (by assumption) ?_ ?_
                     rotate_left 1
                     ·intro w hSw; (try dsimp only at hSw); go_simp; try with_reducible rfl
                     refine tkB 2 (v := ?_) (by assumption) ?_ ?_
                     rotate_left 1
                     ·intro w hSw; (try dsimp only at hSw); go_simp; try with_reducible rfl
                     refine tkB 3 (v := ?_) (by assumption) ?_ ?_
                     rotate_left 1
                     ·intro w hSw; (try dsimp only at hSw); go_simp; try with_reducible rfl
                     refine tkB 4 (v := ?_) (by assumption) ?_ ?_
                     rotate_left 1
                     ·intro w hSw; (try dsimp only at hSw); go_simp; try with_reducible rfl
                     refine tkB 5 (v := ?_) (by assumption) ?_ ?_
                     rotate_left 1
                     ·intro w hSw; (try dsimp only at hSw); go_simp; try with_reducible rfl
                     refine tkB 6 (v := ?_) (by assumption) ?_ ?_
                     rotate_left 1
                     ·intro w hSw; (try dsimp only at hSw); go_simp; try with_reducible rfl
                     refine tkB 7 (v := ?_) (by assumption) ?_ ?_
                     rotate_left 1
                     ·intro w hSw; (try dsimp only at hSw); go_simp; try with_reducible rfl
                     refine tkB 8 (v := ?_) (by assumption) ?_ ?_
                     rotate_left 1
                     ·intro w hSw; (try dsimp only at hSw); go_simp; try with_reducible rfl
                     refine tkB 9 (v := ?_) (by assumption) ?_ ?_
                     rotate_left 1
                     ·intro w hSw; (try dsimp only at hSw); go_simp; try with_reducible rfl
                     refine tkB 10 (v := ?_) (by assumption) ?_ ?_
                     rotate_left 1
                     ·intro w hSw; (try dsimp only at hSw); go_simp; try with_reducible rfl
                     refine tkB 11 (v := ?_) (by assumption) ?_ ?_
                     rotate_left 1
                     ·intro w hSw; (try dsimp only at hSw); go_simp; try with_reducible rfl
                     refine tkB 12 (v := ?_) (by assumption) ?_ ?_
                     rotate_left 1
                     ·intro w hSw; (try dsimp only at hSw); go_simp; try with_reducible rfl
                     refine tkB 13 (v := ?_) (by assumption) ?_ ?_
                     rotate_left 1
                     ·intro w hSw; (try dsimp only at hSw); go_simp; try with_reducible rfl
                     refine tkB 14 (v := ?_) (by assumption) ?_ ?_
                     rotate_left 1
                     ·intro w hSw; (try dsimp only at hSw); go_simp; try with_reducible rfl
                     refine tkB 15 (v := ?_) (by assumption) ?_ ?_
                     rotate_left 1
                     ·intro w hSw; (try dsimp only at hSw); go_simp; try with_reducible rfl
                     refine tkB 16 (v := ?_) (by assumption) ?_ ?_
                     rotate_left 1
                     ·intro w hSw; (try dsimp only at hSw); go_simp; try with_reducible rfl
                     refine tkB 17 (v := ?_) (by assumption) ?_ ?_
                     rotate_left 1
                     ·intro w hSw; (try dsimp only at hSw); go_simp; try with_reducible rfl
                     refine tkB 18 (v := ?_) (by assumption) ?_ ?_
                     rotate_left 1
                     ·intro w hSw; (try dsimp only at hSw); go_simp; try with_reducible rfl
                     refine tkB 19 (v := ?_) (by assumption) ?_ ?_
                     rotate_left 1
                     ·intro w hSw; (try dsimp only at hSw); go_simp; try with_reducible rfl
                     refine tkB 20 (v := ?_) (by assumption) ?_ ?_
                     rotate_left 1
                     ·intro w hSw; (try dsimp only at hSw); go_simp; try with_reducible rfl
                     refine tkB 21 (v := ?_) (by assumption) ?_ ?_
                     rotate_left 1
                     ·intro w hSw; (try dsimp only at hSw); go_simp; try with_reducible rfl
                     refine tkB 22 (v := ?_) (by assumption) ?_ ?_
                     rotate_left 1
                     ·intro w hSw; (try dsimp only at hSw); go_simp; try with_reducible rfl
                     refine tkB 23 (v := ?_) (by assumption) ?_ ?_
                     rotate_left 1
                     ·intro w hSw; (try dsimp only at hSw); go_simp; try with_reducible rfl
                     refine tkB 24 (v := ?_) (by assumption) ?_ ?_
                     rotate_left 1
                     ·intro w hSw; (try dsimp only at hSw); go_simp; try with_reducible rfl
                     refine tkB 25 (v := ?_) (by assumption) ?_ ?_
                     rotate_left 1
                     ·intro w hSw; (try dsimp only at hSw); go_simp; try with_reducible rfl
                     refine tkB 26 (v := ?_) (by assumption) ?_ ?_
                     rotate_left 1
                     ·intro w hSw; (try dsimp only at hSw); go_simp; try with_reducible rfl
                     refine tkB 27 (v := ?_) (by assumption) ?_ ?_
                     rotate_left 1
                     ·intro w hSw; (try dsimp only at hSw); go_simp; try with_reducible rfl
                     refine tkB 28 (v := ?_) (by assumption) ?_ ?_
                     rotate_left 1
                     ·intro w hSw; (try dsimp only at hSw); go_simp; try with_reducible rfl
                     refine tkB 29 (v := ?_) (by assumption) ?_ ?_
                     rotate_left 1
                     ·intro w hSw; (try dsimp only at hSw); go_simp; try with_reducible rfl
                     refine tkB 30 (v := ?_) (by assumption) ?_ ?_
                     rotate_left 1
                     ·intro w hSw; (try dsimp only at hSw); go_simp; try with_reducible rfl
                     refine tkB 31 (v := ?_) (by assumption) ?_ ?_
                     rotate_left 1
                     ·intro w hSw; (try dsimp only at hSw); go_simp; try with_reducible rfl
                     refine tkB 32 (v := ?_) (by assumption) ?_ ?_
                     rotate_left 1
                     ·intro w hSw; (try dsimp only at hSw); go_simp; try with_reducible rfl
                     refine skB 33 (by assumption) ?_
                     refine skB 34 (by assumption) ?_
                     refine skB 35 (by assumption) ?_
                     refine skB 36 (by assumption) ?_
                     refine skB 37 (by assumption) ?_
                     refine skB 38 (by assumption) ?_
                     refine skB 39 (by assumption) ?_
                     refine skB 40 (by assumption) ?_
                     refine skB 41 (by assumption) ?_
                     refine skB 42 (by assumption) ?_
                     refine tkB 43 (v := ?_) (by assumption) ?_ ?_
                     rotate_left 1
                     ·intro w hSw; (try dsimp only at hSw); go_simp; try with_reducible rfl
                     refine tkB 44 (v := ?_) (by assumption) ?_ ?_
                     rotate_left 1
                     ·intro w hSw; (try dsimp only at hSw); go_simp; try with_reducible rfl
                     refine tkB 45 (v := ?_) (by assumption) ?_ ?_
                     rotate_left 1
                     ·intro w hSw; (try dsimp only at hSw); go_simp; try with_reducible rfl
                     refine wpAnyH_done (by kernel_rfl) ?_ _

                     have bk2 := below_call bk bb
                     clear HS hHeld bb a0 a1 a2 a3 b0 b1 b2 b3
                     go_wp2_with fail
                     go_roundw
                     case rel => exact ⟨false, k + 1, by omega, rfl, by go_num, HKB2.out, bk2⟩
                     case measure => simp [intOf]; omega
                   ·have s2 : ((x.2 : Int) == (y.2 : Int)) = false := by simp; omega
                    have s2' : (x.2 == y.2) = false := by simpa using hbb
                    have HKB2 := Lib.hid (show false = decide (y ∈ ps.take (k + 1)) by symm; rw [decide_eq_false_iff_not, HMT.out]; rintro (h | h); exact HKN.out h; exact hbb (by rw [h]))
                    clear ha hbb HKN HMT HSA
                    have HS := Lib.hid fun (W : World) (bW : Below wr.heap.size wr W) => (show W.cell? ⟨ga, k * 4, none⟩ = some (.int .i64 (x.1.1.1 : Int)) ∧ W.cell? ⟨ga, k * 4 + 1, none⟩ = some (.slice xB xm xd) ∧ W.cell? ⟨ga, k * 4 + 2, none⟩ = some (.int .i64 x.1.2) ∧ W.cell? ⟨ga, k * 4 + 3, none⟩ = some (.int .u64 (x.2 : Int)) ∧ W.cell? ⟨gq, 0, none⟩ = some (.int .i64 (y.1.1.1 : Int)) ∧ W.cell? ⟨gq, 1, none⟩ = some (.slice yB ym yd) ∧ W.cell? ⟨gq, 2, none⟩ = some (.int .i64 y.1.2) ∧ W.cell? ⟨gq, 3, none⟩ = some (.int .u64 (y.2 : Int)) from ⟨cell_call a0 bW, cell_call a1 bW, cell_call a2 bW, cell_call a3 bW, cell_call b0 bW, cell_call b1 bW, cell_call b2 bW, cell_call b3 bW⟩)
                    have bb := Below.refl wr.heap.size wr
                    refine wp_region_held_drew (S := fun w' => w'.cell? ⟨ga, k * 4, none⟩ = some (.int .i64 (x.1.1.1 : Int)) ∧ w'.cell? ⟨ga, k * 4 + 1, none⟩ = some (.slice xB xm xd) ∧ w'.cell? ⟨ga, k * 4 + 2, none⟩ = some (.int .i64 x.1.2) ∧ w'.cell? ⟨ga, k * 4 + 3, none⟩ = some (.int .u64 (x.2 : Int)) ∧ w'.cell? ⟨gq, 0, none⟩ = some (.int .i64 (y.1.1.1 : Int)) ∧ w'.cell? ⟨gq, 1, none⟩ = some (.slice yB ym yd) ∧ w'.cell? ⟨gq, 2, none⟩ = some (.int .i64 y.1.2) ∧ w'.cell? ⟨gq, 3, none⟩ = some (.int .u64 (y.2 : Int))) (by kernel_rfl) ?_ (fun hHeld => ?_)
                    ·exact HS.out _ (below_drewN bb 1)
                    replace bb := below_drewN bb 1
                    change Below _ _ wr.drew at bb
                    generalize hw0 : wr.drew = W0 at hHeld bb ⊢
                    clear hw0
                    refine tkB 0 (v := ?_) (by assumption) ?_ ?_
                    rotate_left 1
                    ·intro w hSw; (try dsimp only at hSw); go_simp; try with_reducible rfl
                    refine tkB 1 (v := ?_) (by assumption) ?_ ?_
                    rotate_left 1
                    ·intro w hSw; (try dsimp only at hSw); go_simp; try with_reducible rfl
                    refine tkB 2 (v := ?_) (by assumption) ?_ ?_
                    rotate_left 1
                    ·intro w hSw; (try dsimp only at hSw); go_simp; try with_reducible rfl
                    refine tkB 3 (v := ?_) (by assumption) ?_ ?_
                    rotate_left 1
                    ·intro w hSw; (try dsimp only at hSw); go_simp; try with_reducible rfl
                    refine tkB 4 (v := ?_) (by assumption) ?_ ?_
                    rotate_left 1
                    ·intro w hSw; (try dsimp only at hSw); go_simp; try with_reducible rfl
                    refine tkB 5 (v := ?_) (by assumption) ?_ ?_
                    rotate_left 1
                    ·intro w hSw; (try dsimp only at hSw); go_simp; try with_reducible rfl
                    refine tkB 6 (v := ?_) (by assumption) ?_ ?_
                    rotate_left 1
                    ·intro w hSw; (try dsimp only at hSw); go_simp; try with_reducible rfl
                    refine tkB 7 (v := ?_) (by assumption) ?_ ?_
                    rotate_left 1
                    ·intro w hSw; (try dsimp only at hSw); go_simp; try with_reducible rfl
                    refine tkB 8 (v := ?_) (by assumption) ?_ ?_
                    rotate_left 1
                    ·intro w hSw; (try dsimp only at hSw); go_simp; try with_reducible rfl
                    refine tkB 9 (v := ?_) (by assumption) ?_ ?_
                    rotate_left 1
                    ·intro w hSw; (try dsimp only at hSw); go_simp; try with_reducible rfl
                    refine tkB 10 (v := ?_) (by assumption) ?_ ?_
                    rotate_left 1
                    ·intro w hSw; (try dsimp only at hSw); go_simp; try with_reducible rfl
                    refine tkB 11 (v := ?_) (by assumption) ?_ ?_
                    rotate_left 1
                    ·intro w hSw; (try dsimp only at hSw); go_simp; try with_reducible rfl
                    refine tkB 12 (v := ?_) (by assumption) ?_ ?_
                    rotate_left 1
                    ·intro w hSw; (try dsimp only at hSw); go_simp; try with_reducible rfl
                    refine tkB 13 (v := ?_) (by assumption) ?_ ?_
                    rotate_left 1
                    ·intro w hSw; (try dsimp only at hSw); go_simp; try with_reducible rfl
                    refine tkB 14 (v := ?_) (by assumption) ?_ ?_
                    rotate_left 1
                    ·intro w hSw; (try dsimp only at hSw); go_simp; try with_reducible rfl
                    refine tkB 15 (v := ?_) (by assumption) ?_ ?_
                    rotate_left 1
                    ·intro w hSw; (try dsimp only at hSw); go_simp; try with_reducible rfl
                    refine tkB 16 (v := ?_) (by assumption) ?_ ?_
                    rotate_left 1
                    ·intro w hSw; (try dsimp only at hSw); go_simp; try with_reducible rfl
                    refine tkB 17 (v := ?_) (by assumption) ?_ ?_
                    rotate_left 1
                    ·intro w hSw; (try dsimp only at hSw); go_simp; try with_reducible rfl
                    refine tkB 18 (v := ?_) (by assumption) ?_ ?_
                    rotate_left 1
                    ·intro w hSw; (try dsimp only at hSw); go_simp; try with_reducible rfl
                    refine tkB 19 (v := ?_) (by assumption) ?_ ?_
                    rotate_left 1
                    ·intro w hSw; (try dsimp only at hSw); go_simp; try with_reducible rfl
                    refine tkB 20 (v := ?_) (by assumption) ?_ ?_
                    rotate_left 1
                    ·intro w hSw; (try dsimp only at hSw); go_simp; try with_reducible rfl
                    refine skB 21 (by assumption) ?_
                    refine skB 22 (by assumption) ?_
                    refine skB 23 (by assumption) ?_
                    refine skB 24 (by assumption) ?_
                    refine skB 25 (by assumption) ?_
                    refine skB 26 (by assumption) ?_
                    refine skB 27 (by assumption) ?_
                    refine skB 28 (by assumption) ?_
                    refine skB 29 (by assumption) ?_
                    refine skB 30 (by assumption) ?_
                    refine tkB 31 (v := ?_) (by assumption) ?_ ?_
                    rotate_left 1
                    ·intro w hSw; (try dsimp only at hSw); go_simp; try with_reducible rfl
                    refine tkB 32 (v := ?_) (by assumption) ?_ ?_
                    rotate_left 1
                    ·intro w hSw; (try dsimp only at hSw); go_simp; try with_reducible rfl
                    refine skB 33 (by assumption) ?_
                    refine skB 34 (by assumption) ?_
                    refine skB 35 (by assumption) ?_
                    refine skB 36 (by assumption) ?_
                    refine skB 37 (by assumption) ?_
                    refine skB 38 (by assumption) ?_
                    refine skB 39 (by assumption) ?_
                    refine skB 40 (by assumption) ?_
                    refine skB 41 (by assumption) ?_
                    refine skB 42 (by assumption) ?_
                    refine tkB 43 (v := ?_) (by assumption) ?_ ?_
                    rotate_left 1
                    ·intro w hSw; (try dsimp only at hSw); go_simp; try with_reducible rfl
                    refine tkB 44 (v := ?_) (by assumption) ?_ ?_
                    rotate_left 1
                    ·intro w hSw; (try dsimp only at hSw); go_simp; try with_reducible rfl
                    refine tkB 45 (v := ?_) (by assumption) ?_ ?_
                    rotate_left 1
                    ·intro w hSw; (try dsimp only at hSw); go_simp; try with_reducible rfl
                    refine wpAnyH_done (by kernel_rfl) ?_ _

                    have bk2 := below_call bk bb
                    clear HS hHeld bb a0 a1 a2 a3 b0 b1 b2 b3
                    go_wp2_with fail
                    go_roundw
                    case rel => exact ⟨false, k + 1, by omega, rfl, by go_num, HKB2.out, bk2⟩
                    case measure => simp [intOf]; omega
                  ·have s1 : (x.1.2 == y.1.2) = false := by simpa using ha
                   have HKB2 := Lib.hid (show false = decide (y ∈ ps.take (k + 1)) by symm; rw [decide_eq_false_iff_not, HMT.out]; rintro (h | h); exact HKN.out h; exact ha (by rw [h]))
                   clear ha HKN HMT HSA
                   have HS := Lib.hid fun (W : World) (bW : Below wr.heap.size wr W) => (show W.cell? ⟨ga, k * 4, none⟩ = some (.int .i64 (x.1.1.1 : Int)) ∧ W.cell? ⟨ga, k * 4 + 1, none⟩ = some (.slice xB xm xd) ∧ W.cell? ⟨ga, k * 4 + 2, none⟩ = some (.int .i64 x.1.2) ∧ W.cell? ⟨ga, k * 4 + 3, none⟩ = some (.int .u64 (x.2 : Int)) ∧ W.cell? ⟨gq, 0, none⟩ = some (.int .i64 (y.1.1.1 : Int)) ∧ W.cell? ⟨gq, 1, none⟩ = some (.slice yB ym yd) ∧ W.cell? ⟨gq, 2, none⟩ = some (.int .i64 y.1.2) ∧ W.cell? ⟨gq, 3, none⟩ = some (.int .u64 (y.2 : Int)) from ⟨cell_call a0 bW, cell_call a1 bW, cell_call a2 bW, cell_call a3 bW, cell_call b0 bW, cell_call b1 bW, cell_call b2 bW, cell_call b3 bW⟩)
                   have bb := Below.refl wr.heap.size wr
                   refine wp_region_held_drew (S := fun w' => w'.cell? ⟨ga, k * 4, none⟩ = some (.int .i64 (x.1.1.1 : Int)) ∧ w'.cell? ⟨ga, k * 4 + 1, none⟩ = some (.slice xB xm xd) ∧ w'.cell? ⟨ga, k * 4 + 2, none⟩ = some (.int .i64 x.1.2) ∧ w'.cell? ⟨ga, k * 4 + 3, none⟩ = some (.int .u64 (x.2 : Int)) ∧ w'.cell? ⟨gq, 0, none⟩ = some (.int .i64 (y.1.1.1 : Int)) ∧ w'.cell? ⟨gq, 1, none⟩ = some (.slice yB ym yd) ∧ w'.cell? ⟨gq, 2, none⟩ = some (.int .i64 y.1.2) ∧ w'.cell? ⟨gq, 3, none⟩ = some (.int .u64 (y.2 : Int))) (by kernel_rfl) ?_ (fun hHeld => ?_)
                   ·exact HS.out _ (below_drewN bb 1)
                   replace bb := below_drewN bb 1
                   change Below _ _ wr.drew at bb
                   generalize hw0 : wr.drew = W0 at hHeld bb ⊢
                   clear hw0
                   refine tkB 0 (v := ?_) (by assumption) ?_ ?_
                   rotate_left 1
                   ·intro w hSw; (try dsimp only at hSw); go_simp; try with_reducible rfl
                   refine tkB 1 (v := ?_) (by assumption) ?_ ?_
                   rotate_left 1
                   ·intro w hSw; (try dsimp only at hSw); go_simp; try with_reducible rfl
                   refine tkB 2 (v := ?_) (by assumption) ?_ ?_
                   rotate_left 1
                   ·intro w hSw; (try dsimp only at hSw); go_simp; try with_reducible rfl
                   refine tkB 3 (v := ?_) (by assumption) ?_ ?_
                   rotate_left 1
                   ·intro w hSw; (try dsimp only at hSw); go_simp; try with_reducible rfl
                   refine tkB 4 (v := ?_) (by assumption) ?_ ?_
                   rotate_left 1
                   ·intro w hSw; (try dsimp only at hSw); go_simp; try with_reducible rfl
                   refine tkB 5 (v := ?_) (by assumption) ?_ ?_
                   rotate_left 1
                   ·intro w hSw; (try dsimp only at hSw); go_simp; try with_reducible rfl
                   refine tkB 6 (v := ?_) (by assumption) ?_ ?_
                   rotate_left 1
                   ·intro w hSw; (try dsimp only at hSw); go_simp; try with_reducible rfl
                   refine tkB 7 (v := ?_) (by assumption) ?_ ?_
                   rotate_left 1
                   ·intro w hSw; (try dsimp only at hSw); go_simp; try with_reducible rfl
                   refine tkB 8 (v := ?_) (by assumption) ?_ ?_
                   rotate_left 1
                   ·intro w hSw; (try dsimp only at hSw); go_simp; try with_reducible rfl
                   refine tkB 9 (v := ?_) (by assumption) ?_ ?_
                   rotate_left 1
                   ·intro w hSw; (try dsimp only at hSw); go_simp; try with_reducible rfl
                   refine tkB 10 (v := ?_) (by assumption) ?_ ?_
                   rotate_left 1
                   ·intro w hSw; (try dsimp only at hSw); go_simp; try with_reducible rfl
                   refine skB 11 (by assumption) ?_
                   refine skB 12 (by assumption) ?_
                   refine skB 13 (by assumption) ?_
                   refine skB 14 (by assumption) ?_
                   refine skB 15 (by assumption) ?_
                   refine skB 16 (by assumption) ?_
                   refine skB 17 (by assumption) ?_
                   refine skB 18 (by assumption) ?_
                   refine tkB 19 (v := ?_) (by assumption) ?_ ?_
                   rotate_left 1
                   ·intro w hSw; (try dsimp only at hSw); go_simp; try with_reducible rfl
                   refine tkB 20 (v := ?_) (by assumption) ?_ ?_
                   rotate_left 1
                   ·intro w hSw; (try dsimp only at hSw); go_simp; try with_reducible rfl
                   refine skB 21 (by assumption) ?_
                   refine skB 22 (by assumption) ?_
                   refine skB 23 (by assumption) ?_
                   refine skB 24 (by assumption) ?_
                   refine skB 25 (by assumption) ?_
                   refine skB 26 (by assumption) ?_
                   refine skB 27 (by assumption) ?_
                   refine skB 28 (by assumption) ?_
                   refine skB 29 (by assumption) ?_
                   refine skB 30 (by assumption) ?_
                   refine tkB 31 (v := ?_) (by assumption) ?_ ?_
                   rotate_left 1
                   ·intro w hSw; (try dsimp only at hSw); go_simp; try with_reducible rfl
                   refine tkB 32 (v := ?_) (by assumption) ?_ ?_
                   rotate_left 1
                   ·intro w hSw; (try dsimp only at hSw); go_simp; try with_reducible rfl
                   refine skB 33 (by assumption) ?_
                   refine skB 34 (by assumption) ?_
                   refine skB 35 (by assumption) ?_
                   refine skB 36 (by assumption) ?_
                   refine skB 37 (by assumption) ?_
                   refine skB 38 (by assumption) ?_
                   refine skB 39 (by assumption) ?_
                   refine skB 40 (by assumption) ?_
                   refine skB 41 (by assumption) ?_
                   refine skB 42 (by assumption) ?_
                   refine tkB 43 (v := ?_) (by assumption) ?_ ?_
                   rotate_left 1
                   ·intro w hSw; (try dsimp only at hSw); go_simp; try with_reducible rfl
                   refine tkB 44 (v := ?_) (by assumption) ?_ ?_
                   rotate_left 1
                   ·intro w hSw; (try dsimp only at hSw); go_simp; try with_reducible rfl
                   refine tkB 45 (v := ?_) (by assumption) ?_ ?_
                   rotate_left 1
                   ·intro w hSw; (try dsimp only at hSw); go_simp; try with_reducible rfl
                   refine wpAnyH_done (by kernel_rfl) ?_ _

                   have bk2 := below_call bk bb
                   clear HS hHeld bb a0 a1 a2 a3 b0 b1 b2 b3
                   go_wp2_with fail
                   go_roundw
                   case rel => exact ⟨false, k + 1, by omega, rfl, by go_num, HKB2.out, bk2⟩
                   case measure => simp [intOf]; omega
                ·have hke : k = n := by omega
                 have hnl := hpk.len
                 have HKM := Lib.hid (show kb = decide (y ∈ ps) by rw [HKB.out, List.take_of_length_le (by omega)])
                 have kn : ¬ ((k : Int) < (n : Int)) := by omega
                 have HGS := Lib.hid (glyL_succ j)
                 have hgm : (j : Int) ∈ glyL gn := glyL_mem.2 ⟨by omega, by omega⟩
                 cases kb with
                 | true =>
                  have hmem : stepT (stepD (rowsD back rs) acls tab) (dueD (rowsD back rs)) p (j : Int) ∈ ps := by rw [HY.out]; have := HKM.out; simpa using this.symm
                  have HD2 := Lib.hid (HD.out.known HPI.out HOK.out hmem)
                  clear HKM hmem HKB hke hnl hgm
                  go_wp2
                  go_roundw
                  case rel => exact ⟨D, _, n, _, css, ps, j + 1, rfl, by go_num, by omega, hpk, by rw [HGS.out]; exact HD2.out, HGD.out, hin⟩
                  case measure => simp [intOf]; omega
                 | false =>
                  have hmem : ¬ stepT (stepD (rowsD back rs) acls tab) (dueD (rowsD back rs)) p (j : Int) ∈ ps := by rw [HY.out]; have := HKM.out; simpa using this.symm
                  have HD2 := Lib.hid (HD.out.push HPI.out hgm HOK.out hmem)
                  rw [HY.out] at HD2
                  have kYk := kY.below bk kY.lt
                  have c0 := box_cells kYk 0 rfl
                  have c1 := box_cells kYk 1 rfl
                  have c2 := box_cells kYk 2 rfl
                  have c3 := box_cells kYk 3 rfl
                  have HOW := Lib.hid (hpk.ma.ow.alloc (.cells #[.int .i64 (y.1.1.1 : Int), .slice yB ym yd, .int .i64 y.1.2, .int .u64 (y.2 : Int)] 190))
                  have hsB : w.heap.size ≤ (wr.alloc (.cells #[.int .i64 (y.1.1.1 : Int), .slice yB ym yd, .int .i64 y.1.2, .int .u64 (y.2 : Int)] 190)).heap.size := by rw [World.size_alloc]; have := hpk.bl.size; omega
                  have bYk := bY.trans (bk.mono bY.size)
                  have hRYk : Rd wr (fun b => w5.heap.size ≤ b ∧ b < wr.heap.size) yB ym (gls y.1.1.2) := hRY.mono (fun b hb => ⟨hb.1, Nat.lt_of_lt_of_le hb.2.1 bk.size⟩) (fun b hb => bk.block b hb.2.1)
                  have HRY := Lib.hid hRYk
                  have hyd1 := hyd.1
                  have hyd2 := hyd.2
                  clear HKM hmem HKB hke hnl hgm hpk hRYk kYk
                  go_wp2_with (at_builtin; refine appP elt_dpair rfl _ _ rfl (wr.alloc (.cells #[.int .i64 (y.1.1.1 : Int), .slice yB ym yd, .int .i64 y.1.2, .int .u64 (y.2 : Int)] 190)) w.heap.size _ _ _ css.flatten _ 1 1 [.int .i64 (y.1.1.1 : Int), .slice yB ym yd, .int .i64 y.1.2, .int .u64 (y.2 : Int)] (by rfl) (by rfl) HOW.out rfl (fun _ => news_new _ _ _ (by omega)) (by simp [Value.oneCell']) (by omega) hsB ?_; intro A' c'' W9 ho9 hg9 hb9 hat9)
                  have hp9 := HP5.out.push bYk (fun b hb => hb) (show EPr wr (fun b => w5.heap.size ≤ b ∧ b < wr.heap.size) [.int .i64 (y.1.1.1 : Int), .slice yB ym yd, .int .i64 y.1.2, .int .u64 (y.2 : Int)] y from ⟨yB, ym, yd, rfl, HRY.out, hyd1, hyd2⟩) ho9 hg9 hb9 hat9
                  clear ho9 hg9 hb9 hat9 HOW hsB c0 c1 c2 c3 HRY
                  go_roundw
                  case rel => exact ⟨_, A', n + 1, c'', _, ps ++ [y], j + 1, rfl, by go_num, by omega, hp9, by rw [HGS.out]; exact HD2.out, (fun x hx => by
                   rcases List.mem_append.1 hx with hx | hx
                   ·exact HGD.out x hx
                   ·rw [List.mem_singleton] at hx; subst hx; exact HGY.out), by omega⟩
                  case measure => simp [intOf]; omega
            ·have t7 : ((o1 : Int) != (o2 : Int)) = true := by simp; omega
             have t7' : (o1 != o2) = true := by simpa using hbad
             have t8 : decide ((o1 : Int) ≠ (o2 : Int)) = true := by simp; omega
             have hno : ¬ Agr (stepD (rowsD back rs) acls tab) (dueD (rowsD back rs)) (bitD ends) (glyL gn) (firstD back rs, 0) := HD.out.bad HPI.out (glyL_mem.2 ⟨by omega, by omega⟩) (by rw [HBC.out, HO1.out, HSTP.out]; exact hbad)
             have HNO := Lib.hid (HAG.out false ⟨fun h => (by cases h), fun h => absurd h hno⟩)
             have hbl := hpd.bl
             clear hno hbad HBC HO1 hpd kQ3 hRQ3
             go_wp2
             go_ret
             exact ⟨false, rfl, HNO.out, hbl⟩
     ·have hje : j = gn := by omega
      have jn : ¬ ((j : Int) < (gn : Int)) := by omega
      have HD2 := Lib.hid (HD.out.next (fun g hg => by rw [hje]; exact hg))
      clear HD hp
      go_wp2
      go_roundw
      case rel => exact ⟨D, A, n, c, css, ps, i + 1, rfl, by go_num, hpst, HD2.out, HGD.out, by have := hpst.len; omega⟩
      case measure => simp [intOf]; omega
   ·have inn : ¬ ((i : Int) < (n : Int)) := by omega
    have HA := Lib.hid (HAG.out true ⟨fun _ => hdoi.done (by omega) HDE.out, fun _ => rfl⟩)
    have hbl := hpst.bl
    clear hpst hdoi hgd hnl hfew
    go_wp2
    go_ret
    exact ⟨true, rfl, by simpa using HA.out, hbl⟩
 ·have t0 : decide ((e0 : Int) ≠ (bt : Int)) = true := by simp; omega
  have t1 : ((e0 : Int) != (bt : Int)) = true := by simp; omega
  have t2 : (e0 != bt) = true := by simpa using hne
  have hno : ¬ Agr (stepD (rowsD back rs) acls tab) (dueD (rowsD back rs)) (bitD ends) (glyL gn) (firstD back rs, 0) := fun ha => by
   have h1 := ha [] (fun g hg => by cases hg)
   rw [runB, runB, HX0.out.1, HX0.out.2] at h1
   exact hne h1
  have HNO := Lib.hid (HAG.out false ⟨fun h => (by cases h), fun h => absurd h hno⟩)
  have hbl := hpst.bl
  clear hno hne hpst
  go_wp2
  go_ret
  exact ⟨false, rfl, HNO.out, hbl⟩


end Go.Proofs.YtgcmedkaadagmaaDoor
