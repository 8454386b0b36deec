/- Walks: slices.Replace of one item by others. -/
import Derived.Test.YtkoocipagndclaaD1
namespace Go.Proofs.Ytkoocipagndclaa
open Go.RowKit Go.Shelf

theorem itc_lenN' {xs : List Itm} {n : Nat} (h : xs.length = n) : (itc xs).length = n * 6 := by rw [itc_len, h]
theorem grown2 {w w1 w2 : World} {k : Nat} {r : Option Nat} (h1 : (w.drewN k).grownBy w1 r) (h2 : w1.grownBy w2 r) : w.grownBy w2 r :=
  ⟨h2.os.trans h1.os, h2.tape.trans h1.tape, h2.output.trans h1.output, Nat.le_trans h1.size h2.size, fun b hb hne => (h2.block b (Nat.lt_of_lt_of_le hb h1.size) hne).trans (h1.block b hb hne)⟩
theorem grown3 {w w1 w2 : World} {k : Nat} {r : Option Nat} (h1 : (w.drewN k).grownBy w1 r) (h2 : w1.drew.grownBy w2 r) : w.grownBy w2 r :=
  ⟨h2.os.trans h1.os, h2.tape.trans h1.tape, h2.output.trans h1.output, Nat.le_trans h1.size h2.size, fun b hb hne => (h2.block b (Nat.lt_of_lt_of_le hb h1.size) hne).trans (h1.block b hb hne)⟩
theorem grown4 {w w1 w2 : World} {r : Option Nat} (h1 : w.grownBy w1 r) (h2 : w1.grownBy w2 r) : w.grownBy w2 r := grown2 (k := 0) h1 h2
theorem ov_no {w : World} {vb g d m vc lb cb : Nat} {cv cg : Array Value} (hv : w.heap[vb]? = some (.cells cv 51 (0, 0))) (hg : w.heap[g]? = some (.cells cg 51 (0, 0))) (hne : g ≠ vb) (h0 : cv.size ≠ 0) :
    (callFunc 74 #[.slice (some ⟨g, d, none⟩) lb cb, .slice (some ⟨vb, 0, none⟩) m vc]).run Try.prog w = .ok (.value (.bool false)) w := by
  rw [run_callFunc_extern Try.func74 (by kernel_rfl) (by kernel_rfl) (by kernel_rfl) (e := Extern.SlicesOverlaps.overlaps #[32, 32] #[4]) (by kernel_rfl),
    Lib.run_overlaps_apart w 32 4 51 Try.underlying32 6 (fun _ => by kernel_rfl) ⟨g, d, none⟩ ⟨vb, 0, none⟩ lb cb m vc hne 51 51 cg.size cv.size (by simp [World.shape?, hg]) (by simp [World.shape?, hv]) h0 (by simp [World.frozen?, hg]) (by simp [World.frozen?, hg])]
  rfl

set_option maxRecDepth 100000 in
set_option maxHeartbeats 1000000 in
theorem replace_room2 (base g n c : Nat) (run : List Itm) (i vb m vc : Nat) (vs : List Itm) (w : World) (ho : Ow 51 6 w base (some ⟨g, 0, none⟩) n c (itc run)) (hV : Ow 51 6 w base (some ⟨vb, 0, none⟩) m vc (itc vs)) (hvg : vb ≠ g) (hi : i < n) (hn : n ≤ 1000) (hm : m ≤ 1000) (h2 : 2 ≤ m) (hj : i + 1 < n) (hroom : i + m + (n - (i + 1)) ≤ c) : Calls Try.prog 66 #[.slice (some ⟨g, 0, none⟩) n c, .int .i64 (i : Int), .int .i64 ((i + 1 : Nat) : Int), .slice (some ⟨vb, 0, none⟩) m vc] w (fun e w' => ∃ A' c', e = .returned (.slice A' (i + m + (n - (i + 1))) c') ∧ Ow 51 6 w' base A' (i + m + (n - (i + 1))) c' (itc (run.take i ++ (vs ++ run.drop (i + 1)))) ∧ w.grownBy w' (some g)) := by
  obtain ⟨cur, hF, hcur, hnc⟩ := FB.of ho
  have hcM := hF.hc
  have hrl := ho.rdI.len
  have hvl := hV.rdI.len
  have hvM := hV.cap
  have hLV := itc_lenN' hvl
  have hLS : (itc (run.drop (i + 1))).length = (n - (i + 1)) * 6 := by rw [itc_len, List.length_drop, hrl]
  obtain ⟨p1, p2⟩ := parts_at hcur hrl hi
  have hsrcV : 0 < m → ∃ b o, (some ⟨vb, 0, none⟩ : Option Addr) = some ⟨b, o, none⟩ ∧ ∀ j v, (itc vs)[j]? = some v → w.cell? ⟨b, o + j, none⟩ = some v := fun _ => ⟨vb, 0, rfl, fun j v hv => by rw [Nat.zero_add]; exact hV.cell hv⟩
  have hsrcS : 0 < n - (i + 1) → ∃ b o, (some ⟨g, (i + 1) * 6, none⟩ : Option Addr) = some ⟨b, o, none⟩ ∧ ∀ j v, (itc (run.drop (i + 1)))[j]? = some v → w.cell? ⟨b, o + j, none⟩ = some v := fun _ => ⟨g, (i + 1) * 6, rfl, fun j v hv => hF.cell (by
    rw [← p2, List.getElem?_take] at hv
    split at hv
    · rw [List.getElem?_drop] at hv; exact hv
    · cases hv)⟩
  have hbC : ∀ (W : World), W.heap = w.heap → FB W base g c cur := fun W h => hF.keep (by rw [h])
  have hF1 : ∀ (W : World), FB W base g c (layAt cur ((i + m) * 6) (itc (run.drop (i + 1)))) → FB (W.setRow g (layAt (layAt cur ((i + m) * 6) (itc (run.drop (i + 1)))) (i * 6) (itc vs)).toArray) base g c (layAt (layAt cur ((i + m) * 6) (itc (run.drop (i + 1)))) (i * 6) (itc vs)) ∧ W.grownBy (W.setRow g (layAt (layAt cur ((i + m) * 6) (itc (run.drop (i + 1)))) (i * 6) (itc vs)).toArray) (some g) := fun W h => h.lay (i * 6) (itc vs) (by rw [hLV]; omega)
  have hcp1 := fun (W : World) (h : W.heap = w.heap) (ty : TypeId) (dc sc : Nat) => run_cpAt (w := W) (hbC W h) ty ((i + m) * 6) (n - (i + 1)) dc (some ⟨g, (i + 1) * 6, none⟩) (n - (i + 1)) sc (itc (run.drop (i + 1))) (by omega) hLS (fun h0 => by
    obtain ⟨b, o, e, hc⟩ := hsrcS h0
    exact ⟨b, o, e, fun j v hv => by rw [← hc j v hv]; simp [World.cell?, h]⟩) (by rw [hLS]; omega) (itc_one _)
  have hcp2 := fun (W : World) (h : FB W base g c (layAt cur ((i + m) * 6) (itc (run.drop (i + 1))))) (hv : W.heap[vb]? = w.heap[vb]?) (ty : TypeId) (dc : Nat) => run_cpAt (w := W) h ty (i * 6) (m + (n - (i + 1))) dc (some ⟨vb, 0, none⟩) m vc (itc vs) (by omega) hLV (fun _ => ⟨vb, 0, rfl, fun j v hj => by
    rw [Nat.zero_add, ← hV.cell hj]; exact World.cell?_of_block hv⟩) (by rw [hLV]; omega) (itc_one _)
  obtain ⟨_, _, _, cv, hcv⟩ := hV.blk vb rfl
  have hcvs : cv.size ≠ 0 := fun h => by
    obtain ⟨cur', hF', _, _⟩ := FB.of hV
    have e := hF'.hg
    rw [hcv] at e
    injection e with e; injection e with e _
    have := hF'.hl
    have hvc := hV.cap
    rw [e] at h; simp at h; subst h; simp at this; omega
  have HOV := Lib.hid fun (W : World) (h : W.heap = w.heap) (lb cb : Nat) => ov_no (w := W) (d := (i + m) * 6) (m := m) (vc := vc) (lb := lb) (cb := cb) (by rw [h]; exact hcv) (by rw [h]; exact hF.hg) (Ne.symm hvg) hcvs
  have HCP1 := Lib.hid hcp1; have HCP2 := Lib.hid hcp2
  have hfin : (layAt (layAt cur ((i + m) * 6) (itc (run.drop (i + 1)))) (i * 6) (itc vs)).take ((i + m + (n - (i + 1))) * 6) = itc (run.take i ++ (vs ++ run.drop (i + 1))) := by
    have e : (i + m + (n - (i + 1))) * 6 = i * 6 + (itc vs).length + (n - (i + 1)) * 6 := by rw [hLV]; omega
    rw [e, lay_more (by rw [layAt_len (by rw [hF.hl, hLS]; omega), hF.hl]; omega), lay_take_le (by omega) (by rw [hF.hl]; omega), p1, show i * 6 + (itc vs).length = (i + m) * 6 by rw [hLV]; omega, lay_mid (by rw [hF.hl]; omega), List.take_left' hLS, itc_app, itc_app, List.append_assoc]
  have HFIN := Lib.hid hfin
  have hz1 : ((i : Int) == ((i + 1 : Nat) : Int)) = false := by simp; omega
  have hz2 : (((i + 1 : Nat) : Int) == (n : Int)) = false := by simp; omega
  clear hcp1 hcp2 hfin
  go_enter Try.func66, Try.ntmps66
  go_wp2
  have b0 : (0 : Int) ≤ (i : Int) := by omega
  have b1 : (i : Int) ≤ (c : Int) := by omega
  have b2 : (i : Int) + 1 ≤ (n : Int) := by omega
  have b2' : (0 : Int) ≤ (i : Int) + 1 := by omega
  have b3 : ¬ (c = i + 1) := by omega
  go_quiet (fail)
  go_wp2
  have hov := HOV.out (w.drewN nq) rfl (n - (i + 1)) (c - (i + m))
  rw [hov]
  go_wp2
  clear hov HOV
  have mixed : Try.prog.follows Departure.mixedOrders = true := by kernel_rfl
  have hw1 : IntKind.i64.wrap ((i : Int) + (m : Int)) = (i : Int) + (m : Int) := by rw [IntKind.wrap_i64]; omega
  have b4 : (0 : Int) ≤ (i : Int) + (m : Int) := by omega
  have b5 : (i : Int) + (m : Int) ≤ (i : Int) + (m : Int) + ((n - (i + 1) : Nat) : Int) := by omega
  have htn : ((i : Int) + (m : Int)).toNat = i + m := by omega
  have b6 : ¬ (c = i + m) := by omega
  have b7 : i + m + (n - (i + 1)) - (i + m) = n - (i + 1) := by omega
  have hcp := HCP1.out (w.drewN (nq + 1)) rfl 3 (c - (i + m)) (c - (i + 1))
  go_region_law_o (fail)
  clear hcp
  obtain ⟨fb1, gr1⟩ := (hbC (w.drewN (nq + 1)) rfl).lay ((i + m) * 6) (itc (run.drop (i + 1))) (by rw [hLS]; omega)
  have hvv : ((w.drewN (nq + 1)).setRow g (layAt cur ((i + m) * 6) (itc (run.drop (i + 1)))).toArray).heap[vb]? = w.heap[vb]? := setRow_other _ _ _ _ hvg
  generalize (w.drewN (nq + 1)).setRow g (layAt cur ((i + m) * 6) (itc (run.drop (i + 1)))).toArray = w1 at fb1 gr1 hvv ⊢
  have hcp := HCP2.out w1 fb1 hvv 3 (c - i)
  obtain ⟨fb2, gr2⟩ := hF1 w1 fb1
  have b8 : i + m + (n - (i + 1)) - i = m + (n - (i + 1)) := by omega
  have b9 : ¬ (c = i) := by omega
  have b10 : (i : Int) ≤ (i : Int) + (m : Int) + ((n - (i + 1) : Nat) : Int) := by omega
  clear hw1 b4 b5 htn b6 b7 hz1 hz2
  go_wp2
  clear hcp
  generalize w1.setRow g (layAt (layAt cur ((i + m) * 6) (itc (run.drop (i + 1)))) (i * 6) (itc vs)).toArray = w2 at fb2 gr2 ⊢
  go_ret
  exact ⟨_, _, rfl, fb2.ow _ hroom HFIN.out, grown2 gr1 gr2⟩


set_option maxRecDepth 100000 in
set_option maxHeartbeats 1000000 in
theorem replace_room1 (base g n c : Nat) (run : List Itm) (i vb vc : Nat) (vs : List Itm) (w : World) (ho : Ow 51 6 w base (some ⟨g, 0, none⟩) n c (itc run)) (hV : Ow 51 6 w base (some ⟨vb, 0, none⟩) 1 vc (itc vs)) (_ : vb ≠ g) (hi : i < n) (hn : n ≤ 1000) (hj : i + 1 < n) : Calls Try.prog 66 #[.slice (some ⟨g, 0, none⟩) n c, .int .i64 (i : Int), .int .i64 ((i + 1 : Nat) : Int), .slice (some ⟨vb, 0, none⟩) 1 vc] w (fun e w' => ∃ A' c', e = .returned (.slice A' (i + 1 + (n - (i + 1))) c') ∧ Ow 51 6 w' base A' (i + 1 + (n - (i + 1))) c' (itc (run.take i ++ (vs ++ run.drop (i + 1)))) ∧ w.grownBy w' (some g)) := by
  obtain ⟨cur, hF, hcur, hnc⟩ := FB.of ho
  have hcM := hF.hc
  have hrl := ho.rdI.len
  have hvl := hV.rdI.len
  have hvM := hV.cap
  have hLV := itc_lenN' hvl
  have hLS : (itc (run.drop (i + 1))).length = (n - (i + 1)) * 6 := by rw [itc_len, List.length_drop, hrl]
  obtain ⟨p1, p2⟩ := parts_at hcur hrl hi
  have hsrcV : 0 < 1 → ∃ b o, (some ⟨vb, 0, none⟩ : Option Addr) = some ⟨b, o, none⟩ ∧ ∀ j v, (itc vs)[j]? = some v → w.cell? ⟨b, o + j, none⟩ = some v := fun _ => ⟨vb, 0, rfl, fun j v hv => by rw [Nat.zero_add]; exact hV.cell hv⟩
  have hsrcS : 0 < n - (i + 1) → ∃ b o, (some ⟨g, (i + 1) * 6, none⟩ : Option Addr) = some ⟨b, o, none⟩ ∧ ∀ j v, (itc (run.drop (i + 1)))[j]? = some v → w.cell? ⟨b, o + j, none⟩ = some v := fun _ => ⟨g, (i + 1) * 6, rfl, fun j v hv => hF.cell (by
    rw [← p2, List.getElem?_take] at hv
    split at hv
    · rw [List.getElem?_drop] at hv; exact hv
    · cases hv)⟩
  have hbC : ∀ (W : World), W.heap = w.heap → FB W base g c cur := fun W h => hF.keep (by rw [h])
  obtain ⟨C1, hC1⟩ : ∃ C1, C1 = layAt cur (i * 6) (itc vs) := ⟨_, rfl⟩
  have hC1l : C1.length = c * 6 := by rw [hC1, layAt_len (by rw [hF.hl, hLV]; omega), hF.hl]
  have hC1d : C1.drop ((i + 1) * 6) = cur.drop ((i + 1) * 6) := by
    have := lay_drop (cur := cur) (d := i * 6) (cs := itc vs) (by rw [hF.hl]; omega)
    rw [hLV, show i * 6 + 1 * 6 = (i + 1) * 6 by omega] at this
    rw [hC1]; exact this
  have hcp1 := fun (W : World) (h : W.heap = w.heap) (ty : TypeId) (dc : Nat) => run_cpAt (w := W) (hbC W h) ty (i * 6) (1 + (n - (i + 1))) dc (some ⟨vb, 0, none⟩) 1 vc (itc vs) (by omega) hLV (fun _ => ⟨vb, 0, rfl, fun j v hj => by
    rw [Nat.zero_add, ← hV.cell hj]; simp [World.cell?, h]⟩) (by rw [hLV]; omega) (itc_one _)
  have hla1 := fun (W : World) (h : W.heap = w.heap) => (hbC W h).lay (i * 6) (itc vs) (by rw [hLV]; omega)
  rw [← hC1] at hcp1 hla1
  have hcp2 := fun (W : World) (h : FB W base g c C1) (ty : TypeId) (dc sc : Nat) => run_cpAt (w := W) h ty ((i + 1) * 6) (n - (i + 1)) dc (some ⟨g, (i + 1) * 6, none⟩) (n - (i + 1)) sc (itc (run.drop (i + 1))) (Nat.le_refl _) hLS (fun _ => ⟨g, (i + 1) * 6, rfl, fun j v hv => h.cell (by
    rw [← List.getElem?_drop, hC1d]
    rw [← p2, List.getElem?_take] at hv
    split at hv
    · exact hv
    · cases hv)⟩) (by rw [hLS]; omega) (itc_one _)
  have hla2 := fun (W : World) (h : FB W base g c C1) => h.lay ((i + 1) * 6) (itc (run.drop (i + 1))) (by rw [hLS]; omega)
  have hfin : (layAt C1 ((i + 1) * 6) (itc (run.drop (i + 1)))).take ((i + 1 + (n - (i + 1))) * 6) = itc (run.take i ++ (vs ++ run.drop (i + 1))) := by
    rw [show (i + 1 + (n - (i + 1))) * 6 = (i + 1) * 6 + (itc (run.drop (i + 1))).length by rw [hLS]; omega, lay_take (by rw [hC1l]; omega)]
    have : C1.take ((i + 1) * 6) = itc (run.take i) ++ itc vs := by
      have := lay_take (cur := cur) (d := i * 6) (cs := itc vs) (by rw [hF.hl]; omega)
      rw [hLV, show i * 6 + 1 * 6 = (i + 1) * 6 by omega, p1] at this
      rw [hC1]; exact this
    rw [this, itc_app, itc_app, List.append_assoc]
  have HFIN := Lib.hid hfin; have HCP1 := Lib.hid hcp1; have HCP2 := Lib.hid hcp2; have HL1 := Lib.hid hla1; have HL2 := Lib.hid hla2
  clear hcp1 hcp2 hla1 hla2 hfin hC1 hC1l hC1d
  have b0 : (0 : Int) ≤ (i : Int) := by omega
  have b1 : (i : Int) ≤ (c : Int) := by omega
  have b2 : (i : Int) + 1 ≤ (n : Int) := by omega
  have b2' : (0 : Int) ≤ (i : Int) + 1 := by omega
  have b3 : ¬ (c = i + 1) := by omega
  have hz1 : ((i : Int) == ((i + 1 : Nat) : Int)) = false := by simp; omega
  have hz2 : (((i + 1 : Nat) : Int) == (n : Int)) = false := by simp; omega
  have mixed : Try.prog.follows Departure.mixedOrders = true := by kernel_rfl
  go_enter Try.func66, Try.ntmps66
  go_wp2
  go_quiet (fail)
  have hcp := HCP1.out (w.drewN nq) rfl 3 (c - i)
  obtain ⟨fb1, gr1⟩ := HL1.out (w.drewN nq) rfl
  have b8 : i + 1 + (n - (i + 1)) - i = 1 + (n - (i + 1)) := by omega
  have b9 : ¬ (c = i) := by omega
  have b10 : (i : Int) ≤ (i : Int) + 1 + ((n - (i + 1) : Nat) : Int) := by omega
  go_wp2
  clear hcp
  generalize (w.drewN nq).setRow g C1.toArray = w1 at fb1 gr1 ⊢
  have hcp := HCP2.out w1.drew (fb1.keep rfl) 3 (c - (i + 1)) (c - (i + 1))
  obtain ⟨fb2, gr2⟩ := HL2.out w1.drew (fb1.keep rfl)
  have hw1 : IntKind.i64.wrap ((i : Int) + 1) = (i : Int) + 1 := by rw [IntKind.wrap_i64]; omega
  have b4 : (0 : Int) ≤ (i : Int) + 1 := by omega
  have b5 : (i : Int) + 1 ≤ (i : Int) + 1 + ((n - (i + 1) : Nat) : Int) := by omega
  have htn : ((i : Int) + 1).toNat = i + 1 := by omega
  have b7 : i + 1 + (n - (i + 1)) - (i + 1) = n - (i + 1) := by omega
  clear b8 b9 b10
  go_region_law_o (fail)
  clear hcp
  generalize w1.drew.setRow g (layAt C1 ((i + 1) * 6) (itc (run.drop (i + 1)))).toArray = w2 at fb2 gr2 ⊢
  have hN : i + 1 + (n - (i + 1)) = n := by omega
  have hcl0 := fun (A : Option Addr) (ty : TypeId) (dc : Nat) => run_clNone w2 A ty dc
  have gr3 := grown3 gr1 gr2
  have hI3 : (i : Int) + 1 + ((n - (i + 1) : Nat) : Int) = (n : Int) := by omega
  have hFO := fb2.ow _ (show i + 1 + (n - (i + 1)) ≤ c by omega) HFIN.out
  by_cases hcn : c = n
  · subst hcn
    go_wp2
    go_ret
    exact ⟨_, _, rfl, hFO, gr3⟩
  · have hcn' : ¬ (c = i + 1 + (n - (i + 1))) := by omega
    go_wp2
    go_ret
    exact ⟨_, _, rfl, hFO, gr3⟩


set_option maxRecDepth 100000 in
set_option maxHeartbeats 1000000 in
theorem replace_room0 (base g n c : Nat) (run : List Itm) (i vb vc : Nat) (vs : List Itm) (w : World) (ho : Ow 51 6 w base (some ⟨g, 0, none⟩) n c (itc run)) (hV : Ow 51 6 w base (some ⟨vb, 0, none⟩) 0 vc (itc vs)) (_ : vb ≠ g) (hi : i < n) (hn : n ≤ 1000) (hj : i + 1 < n) : Calls Try.prog 66 #[.slice (some ⟨g, 0, none⟩) n c, .int .i64 (i : Int), .int .i64 ((i + 1 : Nat) : Int), .slice (some ⟨vb, 0, none⟩) 0 vc] w (fun e w' => ∃ A' c', e = .returned (.slice A' (i + 0 + (n - (i + 1))) c') ∧ Ow 51 6 w' base A' (i + 0 + (n - (i + 1))) c' (itc (run.take i ++ (vs ++ run.drop (i + 1)))) ∧ w.grownBy w' (some g)) := by
  obtain ⟨cur, hF, hcur, hnc⟩ := FB.of ho
  have hcM := hF.hc
  have hrl := ho.rdI.len
  have hvl := hV.rdI.len
  have hvM := hV.cap
  have hLV := itc_lenN' hvl
  have hLS : (itc (run.drop (i + 1))).length = (n - (i + 1)) * 6 := by rw [itc_len, List.length_drop, hrl]
  obtain ⟨p1, p2⟩ := parts_at hcur hrl hi
  have hsrcV : 0 < 0 → ∃ b o, (some ⟨vb, 0, none⟩ : Option Addr) = some ⟨b, o, none⟩ ∧ ∀ j v, (itc vs)[j]? = some v → w.cell? ⟨b, o + j, none⟩ = some v := fun _ => ⟨vb, 0, rfl, fun j v hv => by rw [Nat.zero_add]; exact hV.cell hv⟩
  have hsrcS : 0 < n - (i + 1) → ∃ b o, (some ⟨g, (i + 1) * 6, none⟩ : Option Addr) = some ⟨b, o, none⟩ ∧ ∀ j v, (itc (run.drop (i + 1)))[j]? = some v → w.cell? ⟨b, o + j, none⟩ = some v := fun _ => ⟨g, (i + 1) * 6, rfl, fun j v hv => hF.cell (by
    rw [← p2, List.getElem?_take] at hv
    split at hv
    · rw [List.getElem?_drop] at hv; exact hv
    · cases hv)⟩
  have hv0 : vs = [] := List.eq_nil_of_length_eq_zero hvl
  subst hv0
  have hbC : ∀ (W : World), W.heap = w.heap → FB W base g c cur := fun W h => hF.keep (by rw [h])
  have hL0 : layAt cur (i * 6) (itc []) = cur := by unfold layAt itc; simp
  have hcp1 := fun (W : World) (h : W.heap = w.heap) (ty : TypeId) (dc : Nat) => run_cpAt (w := W) (hbC W h) ty (i * 6) (n - (i + 1)) dc (some ⟨vb, 0, none⟩) 0 vc (itc []) (by omega) rfl (fun h => by omega) (by rw [show (itc []).length = 0 from rfl]; omega) (itc_one _)
  have hla1 := fun (W : World) (h : W.heap = w.heap) => (hbC W h).lay (i * 6) (itc []) (by rw [show (itc []).length = 0 from rfl]; omega)
  rw [hL0] at hcp1 hla1
  obtain ⟨C2, hC2⟩ : ∃ C2, C2 = layAt cur (i * 6) (itc (run.drop (i + 1))) := ⟨_, rfl⟩
  have hC2l : C2.length = c * 6 := by rw [hC2, layAt_len (by rw [hF.hl, hLS]; omega), hF.hl]
  have hcp2 := fun (W : World) (h : FB W base g c cur) (ty : TypeId) (dc sc : Nat) => run_cpAt (w := W) h ty (i * 6) (n - (i + 1)) dc (some ⟨g, (i + 1) * 6, none⟩) (n - (i + 1)) sc (itc (run.drop (i + 1))) (Nat.le_refl _) hLS (fun _ => ⟨g, (i + 1) * 6, rfl, fun j v hv => h.cell (by
    rw [← List.getElem?_drop]
    rw [← p2, List.getElem?_take] at hv
    split at hv
    · exact hv
    · cases hv)⟩) (by rw [hLS]; omega) (itc_one _)
  have hla2 := fun (W : World) (h : FB W base g c cur) => h.lay (i * 6) (itc (run.drop (i + 1))) (by rw [hLS]; omega)
  rw [← hC2] at hcp2 hla2
  have hcl := fun (W : World) (h : FB W base g c C2) (ty : TypeId) (dc : Nat) => run_clAt h ty ((i + (n - (i + 1))) * 6) dc (by omega)
  have hla3 := fun (W : World) (h : FB W base g c C2) => h.lay ((i + (n - (i + 1))) * 6) zeroI (by show (i + (n - (i + 1))) * 6 + 6 ≤ c * 6; omega)
  have hfin : (layAt C2 ((i + (n - (i + 1))) * 6) zeroI).take ((i + (n - (i + 1))) * 6) = itc (run.take i ++ ([] ++ run.drop (i + 1))) := by
    rw [lay_take_le (Nat.le_refl _) (by rw [hC2l]; omega), hC2, show (i + (n - (i + 1))) * 6 = i * 6 + (itc (run.drop (i + 1))).length by rw [hLS]; omega, lay_take (by rw [hF.hl]; omega), p1, List.nil_append, itc_app]
  have HFIN := Lib.hid hfin; have HCP1 := Lib.hid hcp1; have HCP2 := Lib.hid hcp2; have HL1 := Lib.hid hla1; have HL2 := Lib.hid hla2; have HCL := Lib.hid hcl; have HL3 := Lib.hid hla3
  clear hcp1 hcp2 hla1 hla2 hfin hC2 hC2l hL0 hcl hla3
  have b0 : (0 : Int) ≤ (i : Int) := by omega
  have b1 : (i : Int) ≤ (c : Int) := by omega
  have b2 : (i : Int) + 1 ≤ (n : Int) := by omega
  have b2' : (0 : Int) ≤ (i : Int) + 1 := by omega
  have b3 : ¬ (c = i + 1) := by omega
  have hz1 : ((i : Int) == ((i + 1 : Nat) : Int)) = false := by simp; omega
  have hz2 : (((i + 1 : Nat) : Int) == (n : Int)) = false := by simp; omega
  have mixed : Try.prog.follows Departure.mixedOrders = true := by kernel_rfl
  go_enter Try.func66, Try.ntmps66
  go_wp2
  go_quiet (fail)
  have hcp := HCP1.out (w.drewN nq) rfl 3 (c - i)
  obtain ⟨fb1, gr1⟩ := HL1.out (w.drewN nq) rfl
  have b8 : i + (n - (i + 1)) - i = n - (i + 1) := by omega
  have b9 : ¬ (c = i) := by omega
  have b10 : (i : Int) ≤ (i : Int) + ((n - (i + 1) : Nat) : Int) := by omega
  go_wp2
  clear hcp
  generalize (w.drewN nq).setRow g cur.toArray = w1 at fb1 gr1 ⊢
  have hcp := HCP2.out w1.drew (fb1.keep rfl) 3 (c - i) (c - (i + 1))
  obtain ⟨fb2, gr2⟩ := HL2.out w1.drew (fb1.keep rfl)
  have hw1 : IntKind.i64.wrap (i : Int) = (i : Int) := by rw [IntKind.wrap_i64]; omega
  go_region_law_o (fail)
  clear hcp
  generalize w1.drew.setRow g C2.toArray = w2 at fb2 gr2 ⊢
  obtain ⟨fb3, gr3⟩ := HL3.out w2 fb2
  have hcl := fun (dc : Nat) => HCL.out w2 fb2 3 dc
  have hcl' := fun (ty : TypeId) (dc : Nat) => HCL.out w2 fb2 ty dc
  have hN1 : n - (i + (n - (i + 1))) = 1 := by omega
  have hN2 : ¬ (c = i + (n - (i + 1))) := by omega
  have hN3 : (i : Int) + ((n - (i + 1) : Nat) : Int) ≤ (n : Int) := by omega
  have hFO := fb3.ow _ (show i + (n - (i + 1)) ≤ c by omega) HFIN.out
  have gr4 := grown4 (grown3 gr1 gr2) gr3
  go_wp2
  go_ret
  exact ⟨_, _, rfl, hFO, gr4⟩

set_option maxRecDepth 100000 in
set_option maxHeartbeats 1000000 in
theorem replace_last (base g n c : Nat) (run : List Itm) (i vb m vc : Nat) (vs : List Itm) (w : World) (ho : Ow 51 6 w base (some ⟨g, 0, none⟩) n c (itc run)) (hV : Ow 51 6 w base (some ⟨vb, 0, none⟩) m vc (itc vs)) (_ : vb ≠ g) (hi : i < n) (hn : n ≤ 1000) (hm : m ≤ 1000) (h1 : 1 ≤ m) (hj : i + 1 = n) (hbase : base ≤ w.heap.size) : Calls Try.prog 66 #[.slice (some ⟨g, 0, none⟩) n c, .int .i64 (i : Int), .int .i64 ((i + 1 : Nat) : Int), .slice (some ⟨vb, 0, none⟩) m vc] w (fun e w' => ∃ A' c', e = .returned (.slice A' (i + m + (n - (i + 1))) c') ∧ Ow 51 6 w' base A' (i + m + (n - (i + 1))) c' (itc (run.take i ++ (vs ++ run.drop (i + 1)))) ∧ w.grownBy w' (some g)) := by
  obtain ⟨cur, hF, hcur, hnc⟩ := FB.of ho
  have hcM := hF.hc
  have hrl := ho.rdI.len
  have hvl := hV.rdI.len
  have hvM := hV.cap
  have hLV := itc_lenN' hvl
  have hLS : (itc (run.drop (i + 1))).length = (n - (i + 1)) * 6 := by rw [itc_len, List.length_drop, hrl]
  obtain ⟨p1, p2⟩ := parts_at hcur hrl hi
  have hsrcV : 0 < m → ∃ b o, (some ⟨vb, 0, none⟩ : Option Addr) = some ⟨b, o, none⟩ ∧ ∀ j v, (itc vs)[j]? = some v → w.cell? ⟨b, o + j, none⟩ = some v := fun _ => ⟨vb, 0, rfl, fun j v hv => by rw [Nat.zero_add]; exact hV.cell hv⟩
  have hsrcS : 0 < n - (i + 1) → ∃ b o, (some ⟨g, (i + 1) * 6, none⟩ : Option Addr) = some ⟨b, o, none⟩ ∧ ∀ j v, (itc (run.drop (i + 1)))[j]? = some v → w.cell? ⟨b, o + j, none⟩ = some v := fun _ => ⟨g, (i + 1) * 6, rfl, fun j v hv => hF.cell (by
    rw [← p2, List.getElem?_take] at hv
    split at hv
    · rw [List.getElem?_drop] at hv; exact hv
    · cases hv)⟩
  have hO := hF.ow i (by omega) p1
  have hdr : run.drop (i + 1) = [] := List.drop_eq_nil_of_le (by omega)
  have HDR := Lib.hid hdr; have HDR2 := Lib.hid (show run.drop n = [] from List.drop_eq_nil_of_le (by omega))
  have hN0 : n - (i + 1) = 0 := by omega
  have b0 : (0 : Int) ≤ (i : Int) := by omega
  have b1 : (i : Int) ≤ (c : Int) := by omega
  have b2 : (i : Int) + 1 ≤ (c : Int) := by omega
  have b2' : (0 : Int) ≤ (i : Int) + 1 := by omega
  have hz1 : ((i : Int) == ((i + 1 : Nat) : Int)) = false := by simp; omega
  have hz2 : (((i + 1 : Nat) : Int) == (n : Int)) = true := by simp; omega
  have hz3 : decide (((i + m : Nat) : Int) < (n : Int)) = false := by simp; omega
  have hz3' : decide (i + m < n) = false := by simp; omega
  have hz4 : decide ((i : Int) + (m : Int) < (n : Int)) = false := by simp; omega
  have hz5 : ((i : Int) + 1 == (n : Int)) = true := by simp; omega
  have HLV := Lib.hid hLV; have HSV := Lib.hid hsrcV; have HBS := Lib.hid hbase; have HOO := Lib.hid hO
  have hnM : n ≤ 9223372036854775807 := by omega
  clear hsrcS hsrcV p2 p1 hLS hcur hF hLV hdr hO
  go_enter Try.func66, Try.ntmps66
  go_upto_region 6 with (at_builtin; refine appP elt_item rfl _ _ rfl _ base _ _ _ (itc (run.take i)) _ _ _ (itc vs) (by rfl) (by rfl) HOO.out HLV.out HSV.out (itc_one _) (by omega) HBS.out ?_; intro A' c' w1 o1 hg1 hb1 hat1)
  go_wp2
  go_ret
  exact ⟨_, _, rfl, by (first | rw [HDR2.out] | rw [HDR.out]); rw [List.append_nil, itc_app]; exact o1, hg1⟩

set_option maxRecDepth 100000 in
set_option maxHeartbeats 1000000 in
theorem replace_last0 (base g n c : Nat) (run : List Itm) (i vb vc : Nat) (vs : List Itm) (w : World) (ho : Ow 51 6 w base (some ⟨g, 0, none⟩) n c (itc run)) (hV : Ow 51 6 w base (some ⟨vb, 0, none⟩) 0 vc (itc vs)) (_ : vb ≠ g) (hi : i < n) (hn : n ≤ 1000) (hj : i + 1 = n) : Calls Try.prog 66 #[.slice (some ⟨g, 0, none⟩) n c, .int .i64 (i : Int), .int .i64 ((i + 1 : Nat) : Int), .slice (some ⟨vb, 0, none⟩) 0 vc] w (fun e w' => ∃ A' c', e = .returned (.slice A' (i + 0 + (n - (i + 1))) c') ∧ Ow 51 6 w' base A' (i + 0 + (n - (i + 1))) c' (itc (run.take i ++ (vs ++ run.drop (i + 1)))) ∧ w.grownBy w' (some g)) := by
  obtain ⟨cur, hF, hcur, hnc⟩ := FB.of ho
  have hcM := hF.hc
  have hrl := ho.rdI.len
  have hvl := hV.rdI.len
  have hvM := hV.cap
  have hLV := itc_lenN' hvl
  have hLS : (itc (run.drop (i + 1))).length = (n - (i + 1)) * 6 := by rw [itc_len, List.length_drop, hrl]
  obtain ⟨p1, p2⟩ := parts_at hcur hrl hi
  have hsrcV : 0 < 0 → ∃ b o, (some ⟨vb, 0, none⟩ : Option Addr) = some ⟨b, o, none⟩ ∧ ∀ j v, (itc vs)[j]? = some v → w.cell? ⟨b, o + j, none⟩ = some v := fun _ => ⟨vb, 0, rfl, fun j v hv => by rw [Nat.zero_add]; exact hV.cell hv⟩
  have hsrcS : 0 < n - (i + 1) → ∃ b o, (some ⟨g, (i + 1) * 6, none⟩ : Option Addr) = some ⟨b, o, none⟩ ∧ ∀ j v, (itc (run.drop (i + 1)))[j]? = some v → w.cell? ⟨b, o + j, none⟩ = some v := fun _ => ⟨g, (i + 1) * 6, rfl, fun j v hv => hF.cell (by
    rw [← p2, List.getElem?_take] at hv
    split at hv
    · rw [List.getElem?_drop] at hv; exact hv
    · cases hv)⟩
  have hv0 : vs = [] := List.eq_nil_of_length_eq_zero hvl
  subst hv0
  have hdr : run.drop (i + 1) = [] := List.drop_eq_nil_of_le (by omega)
  have hL0 : layAt cur (i * 6) (itc []) = cur := by unfold layAt itc; simp
  have hap := fun (ty : TypeId) => run_apAt (w := w) hF ty i (some ⟨vb, 0, none⟩) 0 vc (itc []) (by omega) rfl (fun h => by omega) (itc_one _)
  rw [hL0] at hap
  have hla1 := hF.lay (i * 6) (itc []) (by rw [show (itc []).length = 0 from rfl]; omega)
  rw [hL0] at hla1
  obtain ⟨fb1, gr1⟩ := hla1
  have HAP := Lib.hid (hap 32)
  have hfin : (layAt cur (i * 6) zeroI).take (i * 6) = itc (run.take i ++ ([] ++ run.drop (i + 1))) := by
    rw [lay_take_le (Nat.le_refl _) (by rw [hF.hl]; omega), p1, hdr, List.append_nil, List.append_nil]
  have HFIN := Lib.hid hfin; have HDR := Lib.hid hdr
  have HFIN2 := Lib.hid (show (layAt cur (i * 6) zeroI).take (i * 6) = itc (run.take i ++ ([] ++ run.drop n)) by rw [← hj]; exact hfin)
  have hN0 : n - (i + 1) = 0 := by omega
  have b0 : (0 : Int) ≤ (i : Int) := by omega
  have b1 : (i : Int) ≤ (c : Int) := by omega
  have b2 : (i : Int) + 1 ≤ (c : Int) := by omega
  have b2' : (0 : Int) ≤ (i : Int) + 1 := by omega
  have hz1 : ((i : Int) == ((i + 1 : Nat) : Int)) = false := by simp; omega
  have hz2 : (((i + 1 : Nat) : Int) == (n : Int)) = true := by simp; omega
  have hz5 : ((i : Int) + 1 == (n : Int)) = true := by simp; omega
  have hz3 : decide ((i : Int) < (n : Int)) = true := by simp; omega
  have hnM : n ≤ 9223372036854775807 := by omega
  have b9 : ¬ (c = i) := by omega
  have hN1 : n - i = 1 := by omega
  have bin : (i : Int) ≤ (n : Int) := by omega
  clear hap hsrcS hsrcV p2 p1 hLS hcur hfin hL0 hdr
  go_enter Try.func66, Try.ntmps66
  go_upto_region 6 with (at_builtin; refine apRun rfl _ _ 32 32 rfl _ _ (by rfl) (by rfl) HAP.out ?_)
  clear HAP
  generalize w.setRow g cur.toArray = w1 at fb1 gr1 ⊢
  obtain ⟨fb2, gr2⟩ := fb1.lay (i * 6) zeroI (by show i * 6 + 6 ≤ c * 6; omega)
  have hcl := fun (ty : TypeId) (dc : Nat) => run_clAt fb1 ty (i * 6) dc (by omega)
  go_wp2
  go_ret
  exact ⟨some ⟨g, 0, none⟩, c, by (try rw [show i + 0 + (n - (i + 1)) = i by omega]); rfl, by (try rw [show i + 0 + (n - (i + 1)) = i by omega]); first | exact fb2.ow i (by omega) HFIN.out | exact fb2.ow i (by omega) HFIN2.out, grown4 gr1 gr2⟩
end Go.Proofs.Ytkoocipagndclaa
