/- Walks: Anchor, Width, mark, anchors. -/
import Derived.Test.YtbjcbcdccekbkaaGreatW19
import Derived.Test.YtbjcbcdccekbkaaGreatSpecA
namespace Go.Proofs.YtbjcbcdccekbkaaGreat
open Go.RowKit Go.Shelf

/-- What Anchor tells. -/
def ancV (o : Option (Int × Int)) : Value := match o with | some (x, y) => .tuple #[.int .i64 x, .int .i64 y, .bool true] | none => .tuple #[.int .i64 0, .int .i64 0, .bool false]
theorem ancOf_out {F : Fnt} {g : Int} (h : g < 0 ∨ (F.gly.length : Int) ≤ g) : ancOf F g = [] := by
  unfold ancOf
  rcases h with h | h
  · rw [if_pos h]
  · split
    · rfl
    · rw [List.getElem?_eq_none (by omega)]; rfl
theorem ancOf_in {F : Fnt} {k : Nat} {x : Gly} (h : F.gly[k]? = some x) : ancOf F (k : Int) = x.anc := by
  unfold ancOf; rw [if_neg (by omega)]; simp [h]
theorem ancFind_drop {l : List Anc} {i : Nat} {a : Anc} {k c : Int} (h : l[i]? = some a) : ancFind (l.drop i) k c = if a.k = k ∧ a.c = c then some (a.x, a.y) else ancFind (l.drop (i + 1)) k c := by
  obtain ⟨hl, rfl⟩ := List.getElem?_eq_some_iff.1 h
  rw [List.drop_eq_getElem_cons hl]
  unfold ancFind
  by_cases hh : l[i].k = k ∧ l[i].c = c
  · rw [if_pos hh, List.find?_cons_of_pos (by simp [hh])]; rfl
  · rw [if_neg hh, List.find?_cons_of_neg (by simpa using hh)]

set_option maxRecDepth 100000 in
set_option maxHeartbeats 1000000 in
theorem anchor_c (f : FV) (F : Fnt) (g k c : Int) (w : World) (hf : IsF w (lo w.heap.size) f F) :
    Calls Tryz.prog 18 #[.agg f.cells, .int .i64 g, .int .i64 k, .int .i64 c] w fun e w' => e = .returned (ancV (anchorL F g k c)) ∧ Below w.heap.size w w' := by
  obtain ⟨hg, _, hd, _⟩ := hf
  have hl := hg.len
  have hd1 := hd.1
  have hd2 := hd.2
  unfold FV.cells
  by_cases h0 : g < 0
  · have e : anchorL F g k c = none := by unfold anchorL; rw [ancOf_out (.inl h0)]; rfl
    rw [e]; clear e hl
    go_enter Tryz.func18, Tryz.ntmps18
    go_wp2
    go_ret3
    exact ⟨rfl, (Below.refl _ _).alloc (Nat.le_refl _) _⟩
  · have t0 : decide (g < 0) = false := by simp; omega
    by_cases h1 : (f.gn : Int) ≤ g
    · have e : anchorL F g k c = none := by unfold anchorL; rw [ancOf_out (.inr (by omega))]; rfl
      rw [e]; clear e hl
      go_enter Tryz.func18, Tryz.ntmps18
      go_wp2
      go_ret3
      exact ⟨rfl, (Below.refl _ _).alloc (Nat.le_refl _) _⟩
    · have t1 : decide ((f.gn : Int) ≤ g) = false := by simp; omega
      obtain ⟨q, rfl⟩ : ∃ q : Nat, g = q := ⟨g.toNat, by omega⟩
      have t2 : decide (f.gn ≤ q) = false := by simp; omega
      obtain ⟨b, o, ha, hb0, hc⟩ := hg.pos (by omega)
      obtain ⟨x, hx⟩ := at_some F.gly q (by omega)
      obtain ⟨cs, ⟨u0, u1, u3, u4, u5, A, n, c', u7, u8, rfl, hA, hdA⟩, hcc⟩ := hc q x hx
      have c6 := hcc 6 _ rfl
      have e : anchorL F (q : Int) k c = ancFind (x.anc.drop 0) k c := by unfold anchorL; rw [ancOf_in hx]; rfl
      rw [e, ha]
      have t3 : (0 : Int) ≤ (q : Int) := by omega
      have t4 : (q : Int) < (f.gn : Int) := by omega
      have lt6 := cell_lt c6
      dsimp only at lt6
      have hnM : n ≤ 9223372036854775807 := Nat.le_trans hdA.1 hdA.2
      have HLA := Lib.hid hA.len
      obtain ⟨R, hR⟩ : ∃ R, R = ancFind (x.anc.drop 0) k c := ⟨_, rfl⟩
      rw [← hR]
      have HR := Lib.hid hR
      clear e hl hc hcc hx hR
      go_enter Tryz.func18, Tryz.ntmps18
      go_wp2
      go_loopw [29] (fun i wr => ∃ j : Nat, j ≤ n ∧ i = .int .i64 j ∧ ancFind (x.anc.drop j) k c = R ∧ Below w.heap.size w wr) (fun i _ => n - (intOf i).toNat)
      case atStart => exact ⟨0, by omega, rfl, HR.out.symm, (Below.refl _ _).alloc (Nat.le_refl _) _⟩
      case round =>
        obtain ⟨j, hj, rfl, hfd, hbr⟩ := hrel
        have HFD := Lib.hid hfd; clear hfd
        by_cases hlt : j < n
        · obtain ⟨a, haj⟩ := at_some x.anc j (by have := HLA.out; omega)
          obtain ⟨b2, o2, rfl, hb2, hc2⟩ := hA.pos (by omega)
          obtain ⟨cs, rfl, hcc⟩ := hc2 j a haj
          have g0 := cell_call (hcc 0 _ rfl) hbr
          have g1 := cell_call (hcc 1 _ rfl) hbr
          have g2 := cell_call (hcc 2 _ rfl) hbr
          have g3 := cell_call (hcc 3 _ rfl) hbr
          rw [Nat.add_zero] at g0
          have hst := ancFind_drop (k := k) (c := c) haj
          rw [HFD.out] at hst
          have HST := Lib.hid hst
          have jz : (0 : Int) ≤ (j : Int) := by omega
          have jn : (j : Int) < (n : Int) := by omega
          clear hst haj hc2 hcc
          by_cases hk : a.k = k
          · have e1 : (a.k == k) = true := by simp [hk]
            by_cases hcl : a.c = c
            · have e2 : (a.c == c) = true := by simp [hcl]
              have hres : R = some (a.x, a.y) := by rw [HST.out, if_pos ⟨hk, hcl⟩]
              have HRES := Lib.hid hres
              clear hres hk hcl
              go_wp2
              go_quiet (fail)
              go_wp2
              go_ret3
              exact ⟨by rw [HRES.out]; rfl, below_drewN (hbr.alloc hbr.size _) _⟩
            · have e2 : (a.c == c) = false := by simpa using hcl
              have hres : ancFind (x.anc.drop (j + 1)) k c = R := by rw [HST.out, if_neg (fun h => hcl h.2)]
              have HRES := Lib.hid hres
              clear hres hk
              go_wp2
              go_roundw
              case rel => exact ⟨j + 1, by omega, by go_num, HRES.out, hbr.alloc hbr.size _⟩
              case measure => simp [intOf]; omega
          · have e1 : (a.k == k) = false := by simpa using hk
            have hres : ancFind (x.anc.drop (j + 1)) k c = R := by rw [HST.out, if_neg (fun h => hk h.1)]
            have HRES := Lib.hid hres
            clear hres
            go_wp2
            go_roundw
            case rel => exact ⟨j + 1, by omega, by go_num, HRES.out, hbr.alloc hbr.size _⟩
            case measure => simp [intOf]; omega
        · have hres : R = none := by rw [← HFD.out, List.drop_eq_nil_of_le (by have := HLA.out; omega)]; rfl
          have HRES := Lib.hid hres
          clear hres
          go_wp2
          go_ret3
          exact ⟨by rw [HRES.out]; rfl, hbr⟩

end Go.Proofs.YtbjcbcdccekbkaaGreat
