/- Walks: SameAuto, of two automata that are the same. -/
import Derived.Test.YtgcmedkaadagmaaDoorL1
namespace Go.Proofs.YtgcmedkaadagmaaDoor
open Go.RowKit Go.Shelf Go.Maps

theorem quiet_d {P : Program} {f : FuncId} {args : Array Value} {w : World} {n : Nat} {v : Value}
  (h : Calls P f args (w.drewN n) fun e w' => e = .returned v ∧ ∃ d, w' = (w.drewN n).drewN d) : Calls P f args (w.drewN n) fun e w'' => e = .returned v ∧ ∃ m, w'' = w.drewN m :=
 h.mono fun _ _ ⟨he, d, hm⟩ => ⟨he, n + d, by rw [hm]; simp⟩
theorem quiet_add_d {P : Program} {f : FuncId} {args : Array Value} {w : World} {a n : Nat} {v : Value}
  (h : Calls P f args (w.drewN (a + n)) fun e w' => e = .returned v ∧ ∃ d, w' = (w.drewN (a + n)).drewN d) :
  Calls P f args (w.drewN (a + n)) fun e w'' => e = .returned v ∧ ∃ m, w'' = w.drewN (a + m) :=
 h.mono fun _ _ ⟨he, d, hm⟩ => ⟨he, n + d, by rw [hm, World.drewN_drewN, Nat.add_assoc]⟩
theorem s6rd {w : World} {B n : Nat} {A : Option Addr} {xs : List Int} (h : Rd w (lo B) A n xs) : S6.Rd w B A n xs := by
 refine ⟨h.1, fun hn => ?_⟩
 obtain ⟨b2, o2, e2, hb2, hc2⟩ := h.2 hn
 refine ⟨b2, o2, e2, hb2, fun j x hj => ?_⟩
 obtain ⟨cs, rfl, hcc2⟩ := hc2 j x hj
 have := hcc2 0 _ rfl
 rw [Nat.mul_one, Nat.add_zero] at this
 exact this
theorem same_t (A B : Option Addr) (n m c d : Nat) (xs : List Int) (w : World) (hA : Rd w (lo w.heap.size) A n xs) (hB : Rd w (lo w.heap.size) B m xs) (hn : xs.length ≤ 1000000000) (k : Nat) :
  Calls Tryd.prog 51 #[.slice A n c, .slice B m d] (w.drewN k) fun e w' => e = .returned (.bool true) ∧ ∃ j, w' = (w.drewN k).drewN j := by
 have h := S6.same_c A B n m c d xs xs (w.drewN k) (s6rd (show Rd (w.drewN k) (lo w.heap.size) A n xs from hA)) (s6rd (show Rd (w.drewN k) (lo w.heap.size) B m xs from hB)) (by have := hA.len; omega) (by have := hB.len; omega)
 simpa using h
/-- Nothing too great. -/
structure AuB (a : Au) : Prop where
 c : a.cls.length ≤ 1000000000
 f : ∀ r ∈ a.fore, r.length ≤ 1000000000
 b : ∀ r ∈ a.back, r.length ≤ 1000000000

set_option maxRecDepth 100000 in
set_option maxHeartbeats 2000000 in
theorem sameAuto_c (v u : AV) (a : Au) (w : World) (hv : IsA w (lo w.heap.size) v a) (hu : IsA w (lo w.heap.size) u a) (hB : AuB a) :
  Calls Tryd.prog 27 #[.agg v.cells, .agg u.cells] w fun e w' => e = .returned (.bool true) ∧ Below w.heap.size w w' := by
 have b1 : Below w.heap.size w ((w.alloc (.cells v.cells 38)).alloc (.cells u.cells 38)) := below_lit _ _ (below_lit _ _ (Below.refl _ _) _) _
 have k1 := (Bk.new w 38 v.cells).alloc (.cells u.cells 38)
 have k2 := Bk.new (w.alloc (.cells v.cells 38)) 38 u.cells
 rw [World.size_alloc] at k2
 have HV := Lib.hid fun (W : World) (bW : Below w.heap.size w W) => And.intro (hv.call bW) (hu.call bW)
 have lfn : v.fn = u.fn := hv.1.t.len.symm.trans hu.1.t.len
 have lbn : v.bn = u.bn := hv.2.t.len.symm.trans hu.2.t.len
 have len' : v.en = u.en := hv.1.e.len.symm.trans hu.1.e.len
 have lgn : v.gn = u.gn := hv.2.e.len.symm.trans hu.2.e.len
 have HB := Lib.hid hB
 clear hv hu hB
 obtain ⟨vca, vcn, vcc, vfa, vfn, vfc, vba, vbn, vbc, vea, ven, vec, vga, vgn, vgc⟩ := v
 obtain ⟨uca, ucn, ucc, ufa, ufn, ufc, uba, ubn, ubc, uea, uen, uec, uga, ugn, ugc⟩ := u
 dsimp only at lfn lbn len' lgn
 subst lfn; subst lbn; subst len'; subst lgn
 unfold AV.cells at *
 dsimp only at *
 obtain ⟨W0, hW0⟩ : ∃ W0, (w.alloc (.cells #[.slice vca vcn vcc, .slice vfa vfn vfc, .slice vba vbn vbc, .slice vea ven vec, .slice vga vgn vgc] 38)).alloc (.cells #[.slice uca ucn ucc, .slice ufa vfn ufc, .slice uba vbn ubc, .slice uea ven uec, .slice uga vgn ugc] 38) = W0 := ⟨_, rfl⟩
 rw [hW0] at b1 k1 k2
 have HS := Lib.hid (same_t vca uca vcn ucn vcc ucc a.cls W0 (HV.out W0 b1).1.1.c (HV.out W0 b1).2.1.c HB.out.c 0)
 have z0 := box_cells (w := W0) k1 0 rfl
 have zu0 := box_cells (w := W0) k2 0 rfl
 have z1 := box_cells (w := W0) k1 1 rfl
 have zu1 := box_cells (w := W0) k2 1 rfl
 have z2 := box_cells (w := W0) k1 2 rfl
 have zu2 := box_cells (w := W0) k2 2 rfl
 have z3 := box_cells (w := W0) k1 3 rfl
 have zu3 := box_cells (w := W0) k2 3 rfl
 have z4 := box_cells (w := W0) k1 4 rfl
 have zu4 := box_cells (w := W0) k2 4 rfl
 go_enter Tryd.func27, Tryd.ntmps27
 go_wp2_with fail
 refine HS.out.mono ?_
 rintro e w1 ⟨rfl, dd, hdd⟩
 have bw1 : Below w.heap.size w w1 := by rw [hdd]; exact below_drewN b1 _
 have k11 : Bk w1 w.heap.size 38 #[.slice vca vcn vcc, .slice vfa vfn vfc, .slice vba vbn vbc, .slice vea ven vec, .slice vga vgn vgc] := by rw [hdd]; exact k1
 have k21 : Bk w1 (w.heap.size + 1) 38 #[.slice uca ucn ucc, .slice ufa vfn ufc, .slice uba vbn ubc, .slice uea ven uec, .slice uga vgn ugc] := by rw [hdd]; exact k2
 clear hdd HS hW0 k1 k2 b1 z0 zu0 z1 zu1 z2 zu2 z3 zu3 z4 zu4
 obtain ⟨g1, hg1⟩ : ∃ g, w.heap.size = g := ⟨_, rfl⟩
 obtain ⟨g2, hg2⟩ : ∃ g, g1 + 1 = g := ⟨_, rfl⟩
 have HW := Lib.hid hg1
 rw [hg1] at k11 k21 ⊢
 rw [hg2] at k21 ⊢
 clear hg1 hg2 W0
 have z0 := box_cells k11 0 rfl
 have zu0 := box_cells k21 0 rfl
 have z1 := box_cells k11 1 rfl
 have zu1 := box_cells k21 1 rfl
 have z2 := box_cells k11 2 rfl
 have zu2 := box_cells k21 2 rfl
 have z3 := box_cells k11 3 rfl
 have zu3 := box_cells k21 3 rfl
 have z4 := box_cells k11 4 rfl
 have zu4 := box_cells k21 4 rfl
 go_wp2
 go_loopw [5] (fun iv wr => ∃ i : Nat, i ≤ vfn ∧ iv = .int .i64 i ∧ Bk wr g1 38 #[.slice vca vcn vcc, .slice vfa vfn vfc, .slice vba vbn vbc, .slice vea ven vec, .slice vga vgn vgc] ∧ Bk wr g2 38 #[.slice uca ucn ucc, .slice ufa vfn ufc, .slice uba vbn ubc, .slice uea ven uec, .slice uga vgn ugc] ∧ Below w.heap.size w wr) (fun iv _ => vfn - (intOf iv).toNat)
 case atStart => exact ⟨0, by omega, rfl, k11, k21, bw1⟩
 case round =>
  obtain ⟨i, hi, rfl, k1, k2, bw⟩ := hrel
  clear k11  k21  bw1 z0 z1 z2 z3 z4 zu0 zu1 zu2 zu3 zu4
  have z0 := box_cells (w := wr) k1 0 rfl
  have zu0 := box_cells (w := wr) k2 0 rfl
  have z1 := box_cells (w := wr) k1 1 rfl
  have zu1 := box_cells (w := wr) k2 1 rfl
  have z2 := box_cells (w := wr) k1 2 rfl
  have zu2 := box_cells (w := wr) k2 2 rfl
  have z3 := box_cells (w := wr) k1 3 rfl
  have zu3 := box_cells (w := wr) k2 3 rfl
  have z4 := box_cells (w := wr) k1 4 rfl
  have zu4 := box_cells (w := wr) k2 4 rfl
  by_cases hlt : i < vfn
  ·obtain ⟨hva, hua⟩ := HV.out wr bw
   have ln := hva.1.t.len
   change _ = vfn at ln
   have hcap : vfn ≤ 9223372036854775807 := Nat.le_trans hva.1.ht.1 hva.1.ht.2
   obtain ⟨x, hx⟩ := at_some a.fore i (by omega)
   obtain ⟨b1, o1, e1, _, hc1⟩ := hva.1.t.pos (show 0 < vfn by omega)
   obtain ⟨b2, o2, e2, _, hc2⟩ := hua.1.t.pos (show 0 < vfn by omega)
   change vfa = _ at e1
   change ufa = _ at e2
   obtain ⟨cs1, ⟨A1, n1, c1, rfl, r1, _⟩, h1⟩ := hc1 i x hx
   obtain ⟨cs2, ⟨A2, n2, c2, rfl, r2, _⟩, h2⟩ := hc2 i x hx
   have y1 := h1 0 _ rfl
   have y2 := h2 0 _ rfl
   rw [Nat.mul_one, Nat.add_zero] at y1 y2
   subst e1; subst e2
   have HC := Lib.hid (same_t A1 A2 n1 n2 c1 c2 x wr r1 r2 (HB.out.f x (List.mem_of_getElem? hx)))
   have iz : (0 : Int) ≤ (i : Int) := by omega
   have inn : (i : Int) < (vfn : Int) := by omega
   clear hc1 hc2 h1 h2 r1 r2 hx hva hua ln
   go_wp2
   go_quiet (((first | (with_reducible refine quiet_d (HC.out _)) | (with_reducible refine quiet_add_d (HC.out _)))))
   go_wp2
   go_roundw
   case rel => exact ⟨i + 1, by omega, by go_num, k1, k2, below_drewN bw _⟩
   case measure => simp [intOf]; omega
  ·go_wp2
   go_loopw [6] (fun iv wr => ∃ i : Nat, i ≤ vbn ∧ iv = .int .i64 i ∧ Bk wr g1 38 #[.slice vca vcn vcc, .slice vfa vfn vfc, .slice vba vbn vbc, .slice vea ven vec, .slice vga vgn vgc] ∧ Bk wr g2 38 #[.slice uca ucn ucc, .slice ufa vfn ufc, .slice uba vbn ubc, .slice uea ven uec, .slice uga vgn ugc] ∧ Below w.heap.size w wr) (fun iv _ => vbn - (intOf iv).toNat)
   case atStart => exact ⟨0, by omega, rfl, k1, k2, bw⟩
   case round =>
    clear z0 z1 z2 z3 z4 zu0 zu1 zu2 zu3 zu4
    obtain ⟨i, hi, rfl, k1, k2, bw⟩ := hrel
    have z0 := box_cells (w := wr) k1 0 rfl
    have zu0 := box_cells (w := wr) k2 0 rfl
    have z1 := box_cells (w := wr) k1 1 rfl
    have zu1 := box_cells (w := wr) k2 1 rfl
    have z2 := box_cells (w := wr) k1 2 rfl
    have zu2 := box_cells (w := wr) k2 2 rfl
    have z3 := box_cells (w := wr) k1 3 rfl
    have zu3 := box_cells (w := wr) k2 3 rfl
    have z4 := box_cells (w := wr) k1 4 rfl
    have zu4 := box_cells (w := wr) k2 4 rfl
    by_cases hlt : i < vbn
    ·obtain ⟨hva, hua⟩ := HV.out wr bw
     have ln := hva.2.t.len
     change _ = vbn at ln
     have hcap : vbn ≤ 9223372036854775807 := Nat.le_trans hva.2.ht.1 hva.2.ht.2
     obtain ⟨x, hx⟩ := at_some a.back i (by omega)
     obtain ⟨b1, o1, e1, _, hc1⟩ := hva.2.t.pos (show 0 < vbn by omega)
     obtain ⟨b2, o2, e2, _, hc2⟩ := hua.2.t.pos (show 0 < vbn by omega)
     change vba = _ at e1
     change uba = _ at e2
     obtain ⟨cs1, ⟨A1, n1, c1, rfl, r1, _⟩, h1⟩ := hc1 i x hx
     obtain ⟨cs2, ⟨A2, n2, c2, rfl, r2, _⟩, h2⟩ := hc2 i x hx
     have y1 := h1 0 _ rfl
     have y2 := h2 0 _ rfl
     rw [Nat.mul_one, Nat.add_zero] at y1 y2
     subst e1; subst e2
     have HC := Lib.hid (same_t A1 A2 n1 n2 c1 c2 x wr r1 r2 (HB.out.b x (List.mem_of_getElem? hx)))
     have iz : (0 : Int) ≤ (i : Int) := by omega
     have inn : (i : Int) < (vbn : Int) := by omega
     clear hc1 hc2 h1 h2 r1 r2 hx hva hua ln
     go_wp2
     go_quiet (((first | (with_reducible refine quiet_d (HC.out _)) | (with_reducible refine quiet_add_d (HC.out _)))))
     go_wp2
     go_roundw
     case rel => exact ⟨i + 1, by omega, by go_num, k1, k2, below_drewN bw _⟩
     case measure => simp [intOf]; omega
    ·go_wp2
     go_loopw [7] (fun iv wr => ∃ i : Nat, i ≤ ven ∧ iv = .int .i64 i ∧ Bk wr g1 38 #[.slice vca vcn vcc, .slice vfa vfn vfc, .slice vba vbn vbc, .slice vea ven vec, .slice vga vgn vgc] ∧ Bk wr g2 38 #[.slice uca ucn ucc, .slice ufa vfn ufc, .slice uba vbn ubc, .slice uea ven uec, .slice uga vgn ugc] ∧ Below w.heap.size w wr) (fun iv _ => ven - (intOf iv).toNat)
     case atStart => exact ⟨0, by omega, rfl, k1, k2, bw⟩
     case round =>
      clear z0 z1 z2 z3 z4 zu0 zu1 zu2 zu3 zu4
      obtain ⟨i, hi, rfl, k1, k2, bw⟩ := hrel
      have z0 := box_cells (w := wr) k1 0 rfl
      have zu0 := box_cells (w := wr) k2 0 rfl
      have z1 := box_cells (w := wr) k1 1 rfl
      have zu1 := box_cells (w := wr) k2 1 rfl
      have z2 := box_cells (w := wr) k1 2 rfl
      have zu2 := box_cells (w := wr) k2 2 rfl
      have z3 := box_cells (w := wr) k1 3 rfl
      have zu3 := box_cells (w := wr) k2 3 rfl
      have z4 := box_cells (w := wr) k1 4 rfl
      have zu4 := box_cells (w := wr) k2 4 rfl
      by_cases hlt : i < ven
      ·obtain ⟨hva, hua⟩ := HV.out wr bw
       have ln := hva.1.e.len
       change _ = ven at ln
       have hcap : ven ≤ 9223372036854775807 := Nat.le_trans hva.1.he.1 hva.1.he.2
       obtain ⟨x, hx⟩ := at_some a.fe i (by omega)
       obtain ⟨b1, o1, e1, _, hc1⟩ := hva.1.e.pos (show 0 < ven by omega)
       obtain ⟨b2, o2, e2, _, hc2⟩ := hua.1.e.pos (show 0 < ven by omega)
       change vea = _ at e1
       change uea = _ at e2
       obtain ⟨cs1, ⟨rfl, _⟩, h1⟩ := hc1 i x hx
       obtain ⟨cs2, ⟨rfl, _⟩, h2⟩ := hc2 i x hx
       have y1 := h1 0 _ rfl
       have y2 := h2 0 _ rfl
       rw [Nat.mul_one, Nat.add_zero] at y1 y2
       subst e1; subst e2
       have iz : (0 : Int) ≤ (i : Int) := by omega
       have inn : (i : Int) < (ven : Int) := by omega
       clear hc1 hc2 h1 h2 hx hva hua ln
       go_wp2
       go_quiet (fail)
       go_wp2
       go_roundw
       case rel => exact ⟨i + 1, by omega, by go_num, k1, k2, below_drewN bw _⟩
       case measure => simp [intOf]; omega
      ·go_wp2
       go_loopw [8] (fun iv wr => ∃ i : Nat, i ≤ vgn ∧ iv = .int .i64 i ∧ Bk wr g1 38 #[.slice vca vcn vcc, .slice vfa vfn vfc, .slice vba vbn vbc, .slice vea ven vec, .slice vga vgn vgc] ∧ Bk wr g2 38 #[.slice uca ucn ucc, .slice ufa vfn ufc, .slice uba vbn ubc, .slice uea ven uec, .slice uga vgn ugc] ∧ Below w.heap.size w wr) (fun iv _ => vgn - (intOf iv).toNat)
       case atStart => exact ⟨0, by omega, rfl, k1, k2, bw⟩
       case round =>
        clear z0 z1 z2 z3 z4 zu0 zu1 zu2 zu3 zu4
        obtain ⟨i, hi, rfl, k1, k2, bw⟩ := hrel
        have z0 := box_cells (w := wr) k1 0 rfl
        have zu0 := box_cells (w := wr) k2 0 rfl
        have z1 := box_cells (w := wr) k1 1 rfl
        have zu1 := box_cells (w := wr) k2 1 rfl
        have z2 := box_cells (w := wr) k1 2 rfl
        have zu2 := box_cells (w := wr) k2 2 rfl
        have z3 := box_cells (w := wr) k1 3 rfl
        have zu3 := box_cells (w := wr) k2 3 rfl
        have z4 := box_cells (w := wr) k1 4 rfl
        have zu4 := box_cells (w := wr) k2 4 rfl
        by_cases hlt : i < vgn
        ·obtain ⟨hva, hua⟩ := HV.out wr bw
         have ln := hva.2.e.len
         change _ = vgn at ln
         have hcap : vgn ≤ 9223372036854775807 := Nat.le_trans hva.2.he.1 hva.2.he.2
         obtain ⟨x, hx⟩ := at_some a.be i (by omega)
         obtain ⟨b1, o1, e1, _, hc1⟩ := hva.2.e.pos (show 0 < vgn by omega)
         obtain ⟨b2, o2, e2, _, hc2⟩ := hua.2.e.pos (show 0 < vgn by omega)
         change vga = _ at e1
         change uga = _ at e2
         obtain ⟨cs1, ⟨rfl, _⟩, h1⟩ := hc1 i x hx
         obtain ⟨cs2, ⟨rfl, _⟩, h2⟩ := hc2 i x hx
         have y1 := h1 0 _ rfl
         have y2 := h2 0 _ rfl
         rw [Nat.mul_one, Nat.add_zero] at y1 y2
         subst e1; subst e2
         have iz : (0 : Int) ≤ (i : Int) := by omega
         have inn : (i : Int) < (vgn : Int) := by omega
         clear hc1 hc2 h1 h2 hx hva hua ln
         go_wp2
         go_quiet (fail)
         go_wp2
         go_roundw
         case rel => exact ⟨i + 1, by omega, by go_num, k1, k2, below_drewN bw _⟩
         case measure => simp [intOf]; omega
        ·go_wp2
         go_ret
         exact ⟨rfl, bw⟩

end Go.Proofs.YtgcmedkaadagmaaDoor
