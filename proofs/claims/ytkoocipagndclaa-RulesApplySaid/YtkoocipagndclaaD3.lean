/- Walks: slices.Replace of one item by others, all of it. -/
import Derived.Test.YtkoocipagndclaaD2
import Derived.Deep.DeepAppendWide
namespace Go.Proofs.Ytkoocipagndclaa
open Go.RowKit Go.Shelf

theorem grown5 {w w1 w2 : World} {r : Option Nat} (h1 : w.grownBy w1 r) (h2 : w1.drew.grownBy w2 r) : w.grownBy w2 r := grown3 (k := 0) h1 h2
theorem grownUp {w w' : World} {G : Nat} {r : Option Nat} (h : w.grownBy w' (some G)) (hG : w.heap.size ≤ G) : w.grownBy w' r := ⟨h.os, h.tape, h.output, h.size, fun k hk _ => h.block k hk (fun e => by injection e with e; omega)⟩
set_option maxRecDepth 100000 in
set_option maxHeartbeats 2000000 in
theorem replace_grow (base g n c : Nat) (run : List Itm) (i vb m vc : Nat) (vs : List Itm) (w : World) (ho : Ow 51 6 w base (some ⟨g, 0, none⟩) n c (itc run)) (hV : Ow 51 6 w base (some ⟨vb, 0, none⟩) m vc (itc vs)) (_ : vb ≠ g) (hi : i < n) (hn : n ≤ 1000) (hm : m ≤ 1000) (hj : i + 1 < n) (hroom : c < i + m + (n - (i + 1))) (hbase : base ≤ w.heap.size) : Calls Try.prog 66 #[.slice (some ⟨g, 0, none⟩) n c, .int .i64 (i : Int), .int .i64 ((i + 1 : Nat) : Int), .slice (some ⟨vb, 0, none⟩) m vc] w (fun e w' => ∃ A' c', e = .returned (.slice A' (i + m + (n - (i + 1))) c') ∧ Ow 51 6 w' base A' (i + m + (n - (i + 1))) c' (itc (run.take i ++ (vs ++ run.drop (i + 1)))) ∧ w.grownBy w' (some g)) := by
  obtain ⟨cur, hF, hcur, hnc⟩ := FB.of ho
  have hcM := hF.hc
  have hrl := ho.rdI.len
  have hvl := hV.rdI.len
  have hvM := hV.cap
  have hLV := itc_lenN' hvl
  have hLS : (itc (run.drop (i + 1))).length = (n - (i + 1)) * 6 := by rw [itc_len, List.length_drop, hrl]
  obtain ⟨p1, p2⟩ := parts_at hcur hrl hi
  have hsrcV : 0 < m → ∃ b o, (some ⟨vb, 0, none⟩ : Option Addr) = some ⟨b, o, none⟩ ∧ ∀ j v, (itc vs)[j]? = some v → w.cell? ⟨b, o + j, none⟩ = some v := fun _ => ⟨vb, 0, rfl, fun j v hv => by rw [Nat.zero_add]; exact hV.cell hv⟩
  have hsrcS : 0 < n - (i + 1) → ∃ b o, (some ⟨g, (i + 1) * 6, none⟩ : Option Addr) = some ⟨b, o, none⟩ ∧ ∀ j v, (itc (run.drop (i + 1)))[j]? = some v → w.cell? ⟨b, o + j, none⟩ = some v := fun _ => ⟨g, (i + 1) * 6, rfl, fun j v hv => hF.cell (by
    rw [← p2, List.getElem?_take] at hv
    split at hv
    · rw [List.getElem?_drop] at hv; exact hv
    · cases hv)⟩
  obtain ⟨i0, hi0, hz0, hz1, hz2⟩ := info_parts elt_item.hi
  obtain ⟨Z, hZ⟩ : ∃ Z : Nat → Array Value, Z = Builtin.zeroCells (Value.agg #[.int .i64 0, .int .i64 0, .int .i64 0, .int .i64 0, .int .i64 0, .int .i64 0]).cells := ⟨_, rfl⟩
  have hZl : ∀ k, (Z k).size = k * 6 := fun k => by rw [hZ, size_zeroCells]; rfl
  have hLP : (itc (run.take i)).length = i * 6 := by rw [itc_len, List.length_take]; omega
  have hap := fun (W : World) (h : W.heap = w.heap) (ty : TypeId) => Lib.run_append_grow_zeros (P := Try.prog) W 32 3 ty 51 i0 _ .i64 .i64 Try.underlying32 (by exact Try.underlying3) hi0 hz0 (some ⟨g, 0, none⟩) i c (itc (run.take i)) (by
      have hl := run_loadCells_list (P := Try.prog) W.drew ⟨g, 0, none⟩ (itc (run.take i)) (fun j v hv => by
        rw [← p1] at hv
        have hv' : cur[j]? = some v := by
          rw [List.getElem?_take] at hv
          split at hv
          · exact hv
          · cases hv
        have hc := hF.cell hv'
        rw [← hc]
        have : (⟨g, 0, none⟩ : Addr).add j = ⟨g, j, none⟩ := by unfold Addr.add; split <;> simp_all
        rw [this]
        show W.cell? _ = _
        simp [World.cell?, h])
      rw [hLP] at hl
      simpa [Builtin.firstCells, hz1] using hl) (m + (n - (i + 1))) (by omega) (by rw [hz1]; omega) (by omega) (by omega) (by rw [hz2]; omega) (growslice_fits_wide (by omega) (by rw [hz2]; omega))
  simp only [← hZ] at hap
  obtain ⟨C, hC⟩ : ∃ C : World → Nat, C = fun W => grownCap W (i + (m + (n - (i + 1)))) c 51 := ⟨_, rfl⟩
  have hCge : ∀ W, i + (m + (n - (i + 1))) ≤ C W := fun W => by rw [hC]; exact grownCap_ge W _ _ _
  have hCle : ∀ W, C W ≤ maxLen := fun W => by rw [hC]; exact grownCap_le_maxLen W _ _ _ (by unfold maxLen; omega)
  have hap' : ∀ (W : World), W.heap = w.heap → ∀ ty, (Builtin.append_ #[32, 3] ty #[.slice (some ⟨g, 0, none⟩) i c, .int .i64 ((m : Int) + ((n - (i + 1) : Nat) : Int))]).run Try.prog W = .ok (.slice (some ⟨W.heap.size, 0, none⟩) (i + (m + (n - (i + 1)))) (C W)) (W.drew.alloc (.cells ((itc (run.take i)).toArray ++ Z (m + (n - (i + 1))) ++ Z (C W - (i + (m + (n - (i + 1)))))) 51)) := fun W h ty => by rw [hC, ← Int.natCast_add]; exact hap W h ty
  obtain ⟨C0, hC0⟩ : ∃ C0 : World → List Value, C0 = fun W => itc (run.take i) ++ (Z (m + (n - (i + 1)))).toList ++ (Z (C W - (i + (m + (n - (i + 1)))))).toList := ⟨_, rfl⟩
  have hC0l : ∀ W, (C0 W).length = C W * 6 := fun W => by
    have := hCge W
    rw [hC0]; simp only [List.length_append, Array.length_toList, hLP, hZl]; omega
  have hC0t : ∀ W, (C0 W).take (i * 6) = itc (run.take i) := fun W => by
    rw [hC0]; dsimp only; rw [List.append_assoc]; exact List.take_left' hLP
  have hfb0 : ∀ (W : World), W.heap = w.heap → FB (W.drew.alloc (.cells ((itc (run.take i)).toArray ++ Z (m + (n - (i + 1))) ++ Z (C W - (i + (m + (n - (i + 1)))))) 51)) base W.heap.size (C W) (C0 W) := fun W h =>
    ⟨by rw [hC0]; dsimp only; rw [show (itc (run.take i) ++ (Z (m + (n - (i + 1)))).toList ++ (Z (C W - (i + (m + (n - (i + 1)))))).toList).toArray = (itc (run.take i)).toArray ++ Z (m + (n - (i + 1))) ++ Z (C W - (i + (m + (n - (i + 1))))) by simp]; exact heap_alloc_new W.drew _, by rw [h]; exact hbase, hC0l W, by have := hCle W; unfold maxLen at this; omega⟩
  have hgr0 : ∀ (W : World), W.heap = w.heap → W.grownBy (W.drew.alloc (.cells ((itc (run.take i)).toArray ++ Z (m + (n - (i + 1))) ++ Z (C W - (i + (m + (n - (i + 1)))))) 51)) (some W.heap.size) := fun W _ => ⟨rfl, rfl, rfl, by simp, fun k hk _ => Below.heap_alloc W.drew _ k hk⟩
  have HAP := Lib.hid hap'; have HFB := Lib.hid hfb0; have HGR := Lib.hid hgr0
  have HCG := Lib.hid hCge; have HCL := Lib.hid hCle; have HC0T := Lib.hid hC0t; have HC0L := Lib.hid hC0l
  clear hap hap' hfb0 hgr0 hC hC0 hCge hCle hC0l hC0t hZ hZl hi0 hz0 hz1 hz2
  have b0 : (0 : Int) ≤ (i : Int) := by omega
  have b1 : (i : Int) ≤ (c : Int) := by omega
  have b2 : (i : Int) + 1 ≤ (n : Int) := by omega
  have b2' : (0 : Int) ≤ (i : Int) + 1 := by omega
  have b3 : ¬ (c = i + 1) := by omega
  have hz1 : ((i : Int) == ((i + 1 : Nat) : Int)) = false := by simp; omega
  have hz2 : (((i + 1 : Nat) : Int) == (n : Int)) = false := by simp; omega
  have mixed : Try.prog.follows Departure.mixedOrders = true := by kernel_rfl
  have hroomI : (c : Int) < (i : Int) + (m : Int) + ((n - (i + 1) : Nat) : Int) := by omega
  go_enter Try.func66, Try.ntmps66
  go_wp2
  go_quiet (fail)
  have hsub : (i : Int) + (m : Int) + ((n - (i + 1) : Nat) : Int) - (i : Int) = (m : Int) + ((n - (i + 1) : Nat) : Int) := by omega
  have hsub2 : wrap64 ((i : Int) + (m : Int) + ((n - (i + 1) : Nat) : Int) - (i : Int)) = (m : Int) + ((n - (i + 1) : Nat) : Int) := by unfold wrap64; omega
  go_upto_region 12 with (at_builtin; refine apRun rfl _ _ 32 3 rfl _ _ (by rfl) (by rfl) (HAP.out (w.drewN nq) rfl _) ?_)
  have fb0 := HFB.out (w.drewN nq) rfl
  have gr0 := HGR.out (w.drewN nq) rfl
  have hge := HCG.out (w.drewN nq)
  have hle := HCL.out (w.drewN nq)
  have hlen0 := HC0L.out (w.drewN nq)
  have htak0 := HC0T.out (w.drewN nq)
  have hsz : (w.drewN nq).heap.size = w.heap.size := rfl
  rw [hsz] at fb0 gr0
  have e0 : (w.drewN nq).drew.alloc (.cells ((itc (run.take i)).toArray ++ Z (m + (n - (i + 1))) ++ Z (C (w.drewN nq) - (i + (m + (n - (i + 1)))))) 51) = (w.drewN (nq + 1)).alloc (.cells ((itc (run.take i)).toArray ++ (Z (m + (n - (i + 1))) ++ Z (C (w.drewN nq) - (i + (m + (n - (i + 1))))))) 51) := by rw [Array.append_assoc]; rfl
  rw [e0] at fb0 gr0
  clear e0
  generalize C (w.drewN nq) = cc at *
  generalize C0 (w.drewN nq) = cur0 at *
  generalize (w.drewN (nq + 1)).alloc (.cells ((itc (run.take i)).toArray ++ (Z (m + (n - (i + 1))) ++ Z (cc - (i + (m + (n - (i + 1))))))) 51) = w1 at fb0 gr0 ⊢
  have hgl := hF.lt
  have hvl2 := (hV.blk vb rfl).2.1
  have hvk : w1.heap[vb]? = w.heap[vb]? := gr0.block vb hvl2 (fun e => by injection e with e; omega)
  have hgk : w1.heap[g]? = w.heap[g]? := gr0.block g hgl (fun e => by injection e with e; omega)
  generalize hGG : w.heap.size = G at *
  have hcp := run_cpAt fb0 3 (i * 6) (m + (n - (i + 1))) (cc - i) (some ⟨vb, 0, none⟩) m vc (itc vs) (by omega) hLV (fun _ => ⟨vb, 0, rfl, fun j v hj => by
    rw [Nat.zero_add, ← hV.cell hj]; exact World.cell?_of_block hvk⟩) (by rw [hLV]; omega) (itc_one _)
  obtain ⟨fb1, gr1⟩ := fb0.lay (i * 6) (itc vs) (by rw [hLV]; omega)
  have hC1t : (layAt cur0 (i * 6) (itc vs)).take ((i + m) * 6) = itc (run.take i) ++ itc vs := by
    rw [show (i + m) * 6 = i * 6 + (itc vs).length by rw [hLV]; omega, lay_take (by rw [hlen0]; omega), htak0]
  have hgk2 : (w1.setRow G (layAt cur0 (i * 6) (itc vs)).toArray).heap[g]? = w.heap[g]? := (setRow_other _ _ _ _ (by omega)).trans hgk
  have b8 : ¬ (cc = i) := by omega
  have b9 : ¬ (cc = i + m) := by omega
  have b10 : (i : Int) ≤ (i : Int) + ((m : Int) + ((n - (i + 1) : Nat) : Int)) := by omega
  go_wp2
  clear hcp b10
  generalize layAt cur0 (i * 6) (itc vs) = C1 at *
  generalize w1.setRow G C1.toArray = w2 at fb1 gr1 hgk2 ⊢
  have fb1' : FB w2.drew base G cc C1 := fb1.keep rfl
  have hcp := run_cpAt fb1' 3 ((i + m) * 6) (n - (i + 1)) (cc - (i + m)) (some ⟨g, (i + 1) * 6, none⟩) (n - (i + 1)) (c - (i + 1)) (itc (run.drop (i + 1))) (Nat.le_refl _) hLS (fun h0 => by
    obtain ⟨b, o, e, hc⟩ := hsrcS h0
    injection e with e; injection e with e1 e2
    subst e1; subst e2
    exact ⟨_, _, rfl, fun j v hv => by rw [← hc j v hv]; exact World.cell?_of_block (w := w) (w' := w2.drew) hgk2⟩) (by rw [hLS]; omega) (itc_one _)
  obtain ⟨fb2, gr2⟩ := fb1'.lay ((i + m) * 6) (itc (run.drop (i + 1))) (by rw [hLS]; omega)
  have hfin : (layAt C1 ((i + m) * 6) (itc (run.drop (i + 1)))).take ((i + m + (n - (i + 1))) * 6) = itc (run.take i ++ (vs ++ run.drop (i + 1))) := by
    rw [show (i + m + (n - (i + 1))) * 6 = (i + m) * 6 + (itc (run.drop (i + 1))).length by rw [hLS]; omega, lay_take (by rw [fb1.hl]; omega), hC1t, itc_app, itc_app, List.append_assoc]
  have hFO := fb2.ow (i + m + (n - (i + 1))) (by omega) hfin
  have grA := grownUp (r := some g) (grown5 (grown2 gr0 gr1) gr2) (by rw [hGG]; exact Nat.le_refl _)
  have hw1 : IntKind.i64.wrap ((i : Int) + (m : Int)) = (i : Int) + (m : Int) := by rw [IntKind.wrap_i64]; omega
  have b4 : (0 : Int) ≤ (i : Int) + (m : Int) := by omega
  have b5 : (i : Int) + (m : Int) ≤ (i : Int) + ((m : Int) + ((n - (i + 1) : Nat) : Int)) := by omega
  have htn : ((i : Int) + (m : Int)).toNat = i + m := by omega
  have b7 : i + (m + (n - (i + 1))) - (i + m) = n - (i + 1) := by omega
  have HN := Lib.hid (show i + (m + (n - (i + 1))) = i + m + (n - (i + 1)) by omega)
  clear hfin hC1t gr0 gr1 gr2 fb0 fb1 fb1' hge hle hlen0 htak0
  go_region_law_o (fail)
  clear hcp
  generalize w2.drew.setRow G (layAt C1 ((i + m) * 6) (itc (run.drop (i + 1)))).toArray = w3 at *
  go_wp2
  go_ret
  exact ⟨some ⟨G, 0, none⟩, cc, by rw [← HN.out]; rfl, hFO, grA⟩

theorem replace_c (base g n c : Nat) (run : List Itm) (i vb m vc : Nat) (vs : List Itm) (w : World) (ho : Ow 51 6 w base (some ⟨g, 0, none⟩) n c (itc run)) (hV : Ow 51 6 w base (some ⟨vb, 0, none⟩) m vc (itc vs)) (hvg : vb ≠ g) (hi : i < n) (hn : n ≤ 1000) (hm : m ≤ 1000) (hbase : base ≤ w.heap.size) : Calls Try.prog 66 #[.slice (some ⟨g, 0, none⟩) n c, .int .i64 (i : Int), .int .i64 ((i + 1 : Nat) : Int), .slice (some ⟨vb, 0, none⟩) m vc] w (fun e w' => ∃ A' c', e = .returned (.slice A' (i + m + (n - (i + 1))) c') ∧ Ow 51 6 w' base A' (i + m + (n - (i + 1))) c' (itc (run.take i ++ (vs ++ run.drop (i + 1)))) ∧ w.grownBy w' (some g)) := by
  by_cases hl : i + 1 = n
  · by_cases h0 : m = 0
    · subst h0; exact replace_last0 base g n c run i vb vc vs w ho hV hvg hi hn hl
    · exact replace_last base g n c run i vb m vc vs w ho hV hvg hi hn hm (by omega) hl hbase
  · by_cases hr : c < i + m + (n - (i + 1))
    · exact replace_grow base g n c run i vb m vc vs w ho hV hvg hi hn hm (by omega) hr hbase
    · by_cases h0 : m = 0
      · subst h0; exact replace_room0 base g n c run i vb vc vs w ho hV hvg hi hn (by omega)
      · by_cases h1 : m = 1
        · subst h1; exact replace_room1 base g n c run i vb vc vs w ho hV hvg hi hn (by omega)
        · exact replace_room2 base g n c run i vb m vc vs w ho hV hvg hi hn hm (by omega) (by omega) (by omega)

theorem apStep {ops : Array Oper} {o : Oper} {a : Act} {w : World} {K : Act → World → Prop} {Q : Exit → Act → World → Prop} {E : Prop}
    (hg : o.guard = none) (d x : Operand) (dT sT : TypeId) (hop : o.op = Op.call { callee := Callee.builtin Builtin.append, args := #[d, x], argTypes := #[dT, sT] })
    (v u : Value) (hd : a.eval d = v) (hx : a.eval x = u) {v' : Value} {w' : World} (hr : (Builtin.append_ #[dT, sT] o.type #[v, u]).run Try.prog w = .ok v' w') (hK : K (a.put o.dst v') w') :
    if Region.wanted o (yielded ops a.tmps) = true then Oper.wp Try.prog o a w K Q else E := by
  have hw : Region.wanted o (yielded ops a.tmps) = true := by simp [Region.wanted, hg]
  rw [if_pos hw]
  unfold Oper.wp execOp
  simp only [hop, resolve, invoke, builtin, Sem.run_bind, Sem.run_pure, Result.andThen_ok, List.map_toArray, List.map_cons, List.map_nil, hd, hx, hr]
  exact hK
set_option maxRecDepth 100000 in
set_option maxHeartbeats 1000000 in
theorem delete_c (base g n c : Nat) (run : List Itm) (i : Nat) (w : World) (ho : Ow 51 6 w base (some ⟨g, 0, none⟩) n c (itc run)) (hi : i < n) (hn : n ≤ 1000) :
    Calls Try.prog 67 #[.slice (some ⟨g, 0, none⟩) n c, .int .i64 (i : Int), .int .i64 ((i + 1 : Nat) : Int)] w fun e w' => e = .returned (.slice (some ⟨g, 0, none⟩) (i + (n - (i + 1))) c) ∧ Ow 51 6 w' base (some ⟨g, 0, none⟩) (i + (n - (i + 1))) c (itc (run.eraseIdx i)) ∧ w.grownBy w' (some g) := by
  obtain ⟨cur, hF, hcur, hnc⟩ := FB.of ho
  have hcM := hF.hc
  have hrl := ho.rdI.len
  have hLS : (itc (run.drop (i + 1))).length = (n - (i + 1)) * 6 := by rw [itc_len, List.length_drop, hrl]
  obtain ⟨p1, p2⟩ := parts_at hcur hrl hi
  obtain ⟨C1, hC1⟩ : ∃ C1, C1 = layAt cur (i * 6) (itc (run.drop (i + 1))) := ⟨_, rfl⟩
  have hC1l : C1.length = c * 6 := by rw [hC1, layAt_len (by rw [hF.hl, hLS]; omega), hF.hl]
  have hap := fun (W : World) (h : W.heap = w.heap) (A : Option Addr) (hA : A = some ⟨g, (i + 1) * 6, none⟩ ∨ n - (i + 1) = 0) (ty : TypeId) (sc : Nat) => run_apAt (w := W) (hF.keep (w' := W) (by rw [h])) ty i A (n - (i + 1)) sc (itc (run.drop (i + 1))) (by omega) hLS (fun h0 => by
    rcases hA with hA | hA
    · refine ⟨g, (i + 1) * 6, hA, fun j v hv => (hF.keep (w' := W) (by rw [h])).cell ?_⟩
      rw [← p2, List.getElem?_take] at hv
      split at hv
      · rw [List.getElem?_drop] at hv; exact hv
      · cases hv
    · omega) (itc_one _)
  have hla1 := fun (W : World) (h : W.heap = w.heap) => (hF.keep (w' := W) (by rw [h])).lay (i * 6) (itc (run.drop (i + 1))) (by rw [hLS]; omega)
  rw [← hC1] at hap hla1
  have hfin : (layAt C1 ((i + (n - (i + 1))) * 6) zeroI).take ((i + (n - (i + 1))) * 6) = itc (run.eraseIdx i) := by
    rw [lay_take_le (Nat.le_refl _) (by rw [hC1l]; omega), hC1, show (i + (n - (i + 1))) * 6 = i * 6 + (itc (run.drop (i + 1))).length by rw [hLS]; omega, lay_take (by rw [hF.hl]; omega), p1, List.eraseIdx_eq_take_drop_succ, itc_app]
  have hla2 := fun (W : World) (h : FB W base g c C1) => h.lay ((i + (n - (i + 1))) * 6) zeroI (by show (i + (n - (i + 1))) * 6 + 6 ≤ c * 6; omega)
  have hcl := fun (W : World) (h : FB W base g c C1) (ty : TypeId) (dc : Nat) => run_clAt h ty ((i + (n - (i + 1))) * 6) dc (by omega)
  have HAP := Lib.hid hap; have HL1 := Lib.hid hla1; have HFIN := Lib.hid hfin; have HL2 := Lib.hid hla2; have HCL := Lib.hid hcl
  have b0 : (0 : Int) ≤ (i : Int) := by omega
  have b1 : (i : Int) ≤ (c : Int) := by omega
  have b2 : (i : Int) + 1 ≤ (n : Int) := by omega
  have b2' : (0 : Int) ≤ (i : Int) + 1 := by omega
  have hz1 : ((i : Int) == ((i + 1 : Nat) : Int)) = false := by simp; omega
  have mixed : Try.prog.follows Departure.mixedOrders = true := by kernel_rfl
  have hnM : n ≤ 9223372036854775807 := by omega
  have hnc' : (n : Int) ≤ (c : Int) := by omega
  have hN1 : n - (i + (n - (i + 1))) = 1 := by omega
  have hN2 : ¬ (c = i + (n - (i + 1))) := by omega
  have hN3 : (i : Int) + ((n - (i + 1) : Nat) : Int) ≤ (n : Int) := by omega
  clear hap hla1 hfin hC1 hC1l hla2 hcl
  go_enter Try.func67, Try.ntmps67
  go_wp2
  obtain ⟨fb1, gr1⟩ := HL1.out w.drew rfl
  by_cases hci : c = i + 1
  · have HAPX := Lib.hid (HAP.out w.drew rfl (some ⟨g, 0, none⟩) (.inr (by omega)) 32 (c - (i + 1)))
    have hcc : (c = i + 1) = True := by simp [hci]
    have hcz : c - (i + 1) = 0 := by omega
    rw [hcz] at HAPX
    have HCI := Lib.hid hci
    clear hci
    go_region_law_o (refine apStep rfl _ _ 32 32 rfl _ _ (by simp [Act.eval, Act.put]) (by simp [Act.eval, Act.put]) HAPX.out ?_)
    clear HAPX
    generalize w.drew.setRow g C1.toArray = w1 at fb1 gr1 ⊢
    obtain ⟨fb2, gr2⟩ := HL2.out w1 fb1
    have hcl := fun (ty : TypeId) (dc : Nat) => HCL.out w1 fb1 ty dc
    go_wp2
    go_ret
    exact ⟨rfl, fb2.ow _ (by omega) HFIN.out, grown2 (k := 1) gr1 gr2⟩
  · have HAPX := Lib.hid (HAP.out w.drew rfl (some ⟨g, (i + 1) * 6, none⟩) (.inl rfl) 32 (c - (i + 1)))
    go_region_law_o (refine apStep rfl _ _ 32 32 rfl _ _ (by simp [Act.eval, Act.put]) (by simp [Act.eval, Act.put]) HAPX.out ?_)
    clear HAPX
    generalize w.drew.setRow g C1.toArray = w1 at fb1 gr1 ⊢
    obtain ⟨fb2, gr2⟩ := HL2.out w1 fb1
    have hcl := fun (ty : TypeId) (dc : Nat) => HCL.out w1 fb1 ty dc
    go_wp2
    go_ret
    exact ⟨rfl, fb2.ow _ (by omega) HFIN.out, grown2 (k := 1) gr1 gr2⟩

end Go.Proofs.Ytkoocipagndclaa
