/- Walks: the document's Anchor, Width, pen, copied, kind, mark. -/
import Derived.Test.YtbjcbcdccekbkaaGreatB0
namespace Go.Proofs.YtbjcbcdccekbkaaGreat
open Go.RowKit Go.Shelf

def ax (o : Option (Int × Int)) : Int := match o with | some p => p.1 | none => 0
def ay (o : Option (Int × Int)) : Int := match o with | some p => p.2 | none => 0
theorem ancV_u (o : Option (Int × Int)) : ancV o = .tuple #[.int .i64 (ax o), .int .i64 (ay o), .bool o.isSome] := by
  cases o <;> rfl

set_option maxRecDepth 100000 in
set_option maxHeartbeats 1000000 in
theorem ranchor_c (f : FV) (F : Fnt) (g k c : Int) (w : World) (hf : IsF w (lo w.heap.size) f F) :
    Calls Tryz.prog 33 #[.agg f.cells, .int .i64 g, .int .i64 k, .int .i64 c] w fun e w' => e = .returned (ancV (anchorL F g k c)) ∧ Below w.heap.size w w' := by
  obtain ⟨hg, _, hd, _⟩ := hf
  have hl := hg.len
  have hd1 := hd.1
  have hd2 := hd.2
  unfold FV.cells
  by_cases h0 : g < 0
  · have e : anchorL F g k c = none := by unfold anchorL; rw [ancOf_out (.inl h0)]; rfl
    rw [e]; clear e hl
    go_enter Tryz.func33, Tryz.ntmps33
    go_wp2
    go_ret3
    exact ⟨rfl, (Below.refl _ _).alloc (Nat.le_refl _) _⟩
  · have t0 : decide (g < 0) = false := by simp; omega
    by_cases h1 : (f.gn : Int) ≤ g
    · have e : anchorL F g k c = none := by unfold anchorL; rw [ancOf_out (.inr (by omega))]; rfl
      rw [e]; clear e hl
      go_enter Tryz.func33, Tryz.ntmps33
      go_wp2
      go_ret3
      exact ⟨rfl, (Below.refl _ _).alloc (Nat.le_refl _) _⟩
    · have t1 : decide ((f.gn : Int) ≤ g) = false := by simp; omega
      obtain ⟨q, rfl⟩ : ∃ q : Nat, g = q := ⟨g.toNat, by omega⟩
      have t2 : decide (f.gn ≤ q) = false := by simp; omega
      obtain ⟨b, o, ha, hb0, hc⟩ := hg.pos (by omega)
      obtain ⟨x, hx⟩ := at_some F.gly q (by omega)
      obtain ⟨cs, ⟨u0, u1, u3, u4, u5, A, n, c', u7, u8, rfl, hA, hdA⟩, hcc⟩ := hc q x hx
      have c6 := hcc 6 _ rfl
      have e : anchorL F (q : Int) k c = ancFind (x.anc.drop 0) k c := by unfold anchorL; rw [ancOf_in hx]; rfl
      rw [e, ha]
      have t3 : (0 : Int) ≤ (q : Int) := by omega
      have t4 : (q : Int) < (f.gn : Int) := by omega
      have lt6 := cell_lt c6
      dsimp only at lt6
      have hnM : n ≤ 9223372036854775807 := Nat.le_trans hdA.1 hdA.2
      have HLA := Lib.hid hA.len
      obtain ⟨R, hR⟩ : ∃ R, R = ancFind (x.anc.drop 0) k c := ⟨_, rfl⟩
      rw [← hR]
      have HR := Lib.hid hR
      clear e hl hc hcc hx hR
      go_enter Tryz.func33, Tryz.ntmps33
      go_wp2
      go_loopw [12] (fun i wr => ∃ j : Nat, j ≤ n ∧ i = .int .i64 j ∧ ancFind (x.anc.drop j) k c = R ∧ Below w.heap.size w wr) (fun i _ => n - (intOf i).toNat)
      case atStart => exact ⟨0, by omega, rfl, HR.out.symm, (Below.refl _ _).alloc (Nat.le_refl _) _⟩
      case round =>
        obtain ⟨j, hj, rfl, hfd, hbr⟩ := hrel
        have HFD := Lib.hid hfd; clear hfd
        by_cases hlt : j < n
        · obtain ⟨a, haj⟩ := at_some x.anc j (by have := HLA.out; omega)
          obtain ⟨b2, o2, rfl, hb2, hc2⟩ := hA.pos (by omega)
          obtain ⟨cs, rfl, hcc⟩ := hc2 j a haj
          have g0 := cell_call (hcc 0 _ rfl) hbr
          have g1 := cell_call (hcc 1 _ rfl) hbr
          have g2 := cell_call (hcc 2 _ rfl) hbr
          have g3 := cell_call (hcc 3 _ rfl) hbr
          rw [Nat.add_zero] at g0
          have hst := ancFind_drop (k := k) (c := c) haj
          rw [HFD.out] at hst
          have HST := Lib.hid hst
          have jz : (0 : Int) ≤ (j : Int) := by omega
          have jn : (j : Int) < (n : Int) := by omega
          clear hst haj hc2 hcc
          by_cases hk : a.k = k
          · have e1 : (a.k == k) = true := by simp [hk]
            by_cases hcl : a.c = c
            · have e2 : (a.c == c) = true := by simp [hcl]
              have hres : R = some (a.x, a.y) := by rw [HST.out, if_pos ⟨hk, hcl⟩]
              have HRES := Lib.hid hres
              clear hres hk hcl
              go_wp2
              go_quiet (fail)
              go_wp2
              go_ret3
              exact ⟨by rw [HRES.out]; rfl, below_drewN hbr _⟩
            · have e2 : (a.c == c) = false := by simpa using hcl
              have hres : ancFind (x.anc.drop (j + 1)) k c = R := by rw [HST.out, if_neg (fun h => hcl h.2)]
              have HRES := Lib.hid hres
              clear hres hk
              go_wp2
              go_roundw
              case rel => exact ⟨j + 1, by omega, by go_num, HRES.out, hbr⟩
              case measure => simp [intOf]; omega
          · have e1 : (a.k == k) = false := by simpa using hk
            have hres : ancFind (x.anc.drop (j + 1)) k c = R := by rw [HST.out, if_neg (fun h => hk h.1)]
            have HRES := Lib.hid hres
            clear hres
            go_wp2
            go_roundw
            case rel => exact ⟨j + 1, by omega, by go_num, HRES.out, hbr⟩
            case measure => simp [intOf]; omega
        · have hres : R = none := by rw [← HFD.out, List.drop_eq_nil_of_le (by have := HLA.out; omega)]; rfl
          have HRES := Lib.hid hres
          clear hres
          go_wp2
          go_ret3
          exact ⟨by rw [HRES.out]; rfl, hbr⟩

set_option maxRecDepth 100000 in
set_option maxHeartbeats 400000 in
theorem rwidth_c (A : Option Addr) (n c : Nat) (run : List Itm) (w : World) (h : RdI w (lo w.heap.size) A n run) (hn : n ≤ 9223372036854775806) :
    Calls Tryz.prog 44 #[.slice A n c] w fun e w' => e = .returned (.int .i64 (widthL w64 run)) ∧ w = w' := by
  have HL := Lib.hid h.len
  go_enter Tryz.func44, Tryz.ntmps44
  go_wp2
  go_loop [3, 4] (fun s i => ∃ j : Nat, j ≤ n ∧ i = .int .i64 j ∧ s = .int .i64 (widthL w64 (run.take j))) (fun _ i => n - (intOf i).toNat)
  case atStart => exact ⟨0, by omega, rfl, rfl⟩
  case round =>
    obtain ⟨j, hj, rfl, rfl⟩ := hrel
    by_cases hlt : j < n
    · obtain ⟨it, hit⟩ := at_some run j (by have := HL.out; omega)
      obtain ⟨b, o, rfl, _, hc⟩ := h.pos (by omega)
      obtain ⟨cs, rfl, hcc⟩ := hc j it hit
      have g3 := hcc 3 _ rfl
      have HN := Lib.hid (widthL_next hit)
      have jz : (0 : Int) ≤ (j : Int) := by omega
      have jn : (j : Int) < (n : Int) := by omega
      clear hit hc hcc
      go_wp2
      go_round
      case rel => exact ⟨j + 1, by omega, by go_num, by rw [HN.out]⟩
      case measure => simp [intOf]; omega
    · go_wp2
      go_ret
      exact ⟨ret_int (by rw [List.take_of_length_le (by have := HL.out; omega)]), rfl⟩

theorem RdI.takeN {w : World} {S : Nat → Prop} {A : Option Addr} {n : Nat} {xs : List Itm} (h : RdI w S A n xs) (m : Nat) (hm : m ≤ n) : RdI w S A m (xs.take m) := SlE.take h m hm
set_option maxRecDepth 100000 in
theorem rpen_c (A : Option Addr) (n c i : Nat) (run : List Itm) (w : World) (h : RdI w (lo w.heap.size) A n run) (hd : Hd n c) (hi : i ≤ n) (hn : n ≤ 1000000) :
    Calls Tryz.prog 34 #[.slice A n c, .int .i64 (i : Int)] w fun e w' => e = .returned (.int .i64 (widthL w64 (run.take i))) ∧ w = w' := by
  have HW := Lib.hid fun (c' : Nat) => rwidth_c A i c' (run.take i) w (h.takeN i hi) (by omega)
  have hd1 := hd.1
  have hd2 := hd.2
  have h0 : (0 : Int) ≤ (i : Int) := by omega
  have h1 : (i : Int) ≤ (c : Int) := by omega
  go_enter Tryz.func34, Tryz.ntmps34
  go_wp2_with fail
  refine (HW.out _).mono ?_
  rintro e w' ⟨rfl, rfl⟩
  go_wp2
  go_ret
  exact ⟨rfl, rfl⟩

set_option maxRecDepth 100000 in
theorem rcopied_c (A : Option Addr) (n c : Nat) (xs : List Itm) (w : World) (hA : RdI w (lo w.heap.size) A n xs) (hn : n ≤ 1000000) :
    Calls Tryz.prog 24 #[.slice A n c] w (RPost w.heap.size w xs) := by
  have hR := hA.alloc (.cells #[] 57)
  have hl := hA.len
  have hl2 : (itc xs).length = n * 6 := by rw [itc_len, hl]
  have HL := Lib.hid hl2
  clear hl hl2
  go_enter Tryz.func24, Tryz.ntmps24
  go_wp2_with (at_builtin; refine appP elt_item rfl _ _ rfl _ w.heap.size _ _ _ [] _ _ _ (itc xs) (by rfl) (by rfl) (own_empty w _ _) HL.out (news_itc hR) (itc_one xs) (by omega) (by simp) ?_; intro A' c' w' ho hg hb hat)
  go_ret
  rw [Nat.zero_add] at ho
  exact ⟨_, _, _, rfl, ho, ((Below.refl _ _).alloc (Nat.le_refl _) _).trans hb⟩

set_option maxRecDepth 100000 in
set_option maxHeartbeats 400000 in
theorem rkind_c (f : FV) (F : Fnt) (n : Int) (w : World) (hf : IsF w (lo w.heap.size) f F) :
    Calls Tryz.prog 20 #[.agg f.cells, .int .i64 n] w fun e w' => e = .returned (.int .i64 (kiOf F n).1) ∧ Below w.heap.size w w' := by
  have hln := hf.2.1.len
  have hld := hf.2.2.2
  have hlnM : f.ln ≤ 9223372036854775807 := Nat.le_trans hld.1 hld.2
  unfold FV.cells
  by_cases h0 : n < 0
  · have e0 : kiOf F n = (0, false) := by unfold kiOf lkAt; rw [if_pos h0]
    rw [e0]
    clear e0 hln hf
    go_enter Tryz.func20, Tryz.ntmps20
    go_wp2
    go_ret
    exact ⟨rfl, (Below.refl _ _).alloc (Nat.le_refl _) _⟩
  · have t0 : decide (n < 0) = false := by simp; omega
    by_cases h1 : (f.ln : Int) ≤ n
    · have e0 : kiOf F n = (0, false) := by unfold kiOf lkAt; rw [if_neg h0, List.getElem?_eq_none (by omega)]
      rw [e0]
      clear e0 hln hf
      go_enter Tryz.func20, Tryz.ntmps20
      go_wp2
      go_ret
      exact ⟨rfl, (Below.refl _ _).alloc (Nat.le_refl _) _⟩
    · obtain ⟨k, rfl⟩ : ∃ k : Nat, n = k := ⟨n.toNat, by omega⟩
      obtain ⟨lk, hlk⟩ := at_some F.lks k (by omega)
      have e0 : kiOf F (k : Int) = (lk.kind, lk.ign) := by unfold kiOf lkAt; rw [if_neg h0, Int.toNat_natCast, hlk]
      rw [e0]
      obtain ⟨b, o, hla2, hb0, hc⟩ := hf.2.1.pos (by omega)
      obtain ⟨cs, ⟨A, n, c, rfl, hR, hd⟩, hcc⟩ := hc k lk hlk
      have g0 := hcc 0 _ rfl
      rw [Nat.add_zero] at g0
      have lt0 := cell_lt g0
      dsimp only at lt0
      have kz : (0 : Int) ≤ (k : Int) := by omega
      have kn : (k : Int) < (f.ln : Int) := by omega
      have t1 : decide ((f.ln : Int) ≤ (k : Int)) = false := by simp; omega
      have t1' : decide (f.ln ≤ k) = false := by simp; omega
      rw [hla2]
      clear e0 hln hf hlk hc hcc hR hd h1
      go_enter Tryz.func20, Tryz.ntmps20
      go_wp2
      go_ret
      exact ⟨rfl, (Below.refl _ _).alloc (Nat.le_refl _) _⟩

set_option maxRecDepth 100000 in
set_option maxHeartbeats 400000 in
theorem rmark_c (f : FV) (F : Fnt) (g : Int) (w : World) (hf : IsF w (lo w.heap.size) f F) :
    Calls Tryz.prog 32 #[.agg f.cells, .int .i64 g] w fun e w' => e = .returned (.bool (isMark F g)) ∧ Below w.heap.size w w' := by
  obtain ⟨hg, _, hd, _⟩ := hf
  have hl := hg.len
  have hd1 := hd.1
  have hd2 := hd.2
  unfold FV.cells
  by_cases h0 : g < 0
  · have e := isMark_out (F := F) (.inl h0)
    rw [e]; clear e hl
    have t0 : decide (0 ≤ g) = false := by simp; omega
    go_enter Tryz.func32, Tryz.ntmps32
    go_wp2
    go_ret
    exact ⟨rfl, (Below.refl _ _).alloc (Nat.le_refl _) _⟩
  · by_cases h1 : (f.gn : Int) ≤ g
    · have e := isMark_out (F := F) (g := g) (.inr (by omega))
      rw [e]; clear e hl
      have t0 : decide (0 ≤ g) = true := by simp; omega
      have t1 : decide (g < (f.gn : Int)) = false := by simp; omega
      go_enter Tryz.func32, Tryz.ntmps32
      go_wp2
      go_ret
      exact ⟨rfl, (Below.refl _ _).alloc (Nat.le_refl _) _⟩
    · obtain ⟨k, rfl⟩ : ∃ k : Nat, g = k := ⟨g.toNat, by omega⟩
      obtain ⟨b, o, ha, _, hc⟩ := hg.pos (by omega)
      obtain ⟨x, hx⟩ := at_some F.gly k (by omega)
      obtain ⟨cs, ⟨u0, u1, u3, u4, u5, A, n, c, u7, u8, rfl, _⟩, hcc⟩ := hc k x hx
      have c2 := hcc 2 _ rfl
      have lt0 := cell_lt c2
      dsimp only at lt0
      rw [isMark_in hx, ha]
      clear hx hc hcc hl
      have t0 : (0 : Int) ≤ (k : Int) := by omega
      have t1 : (k : Int) < (f.gn : Int) := by omega
      go_enter Tryz.func32, Tryz.ntmps32
      go_wp2
      go_ret
      exact ⟨rfl, (Below.refl _ _).alloc (Nat.le_refl _) _⟩

end Go.Proofs.YtbjcbcdccekbkaaGreat
