/- Walks: the reference's Of, Union, Meet, Minus, Sub (printed by tools/c06_w14.py). -/
import Derived.Test.YtladdpfngoldcaaW12
import Derived.Test.YtladdpfngoldcaaLawC
import Derived.Deep.RegionHeld3
import Derived.Deep.DrawnRows
namespace Go.Proofs.Ytladdpfngoldcaa
open Go.RowKit
attribute [local go_sem ↓] Go.wp_at_zero Go.wp_at_succ

theorem appS_run (ty : TypeId) (w : World) (base : Nat) (A : Option Addr) (n c : Nat) (xs : List Int) (D : Option Addr) (m d K : Nat) (ys : List Int)
    (hown : Ow w base A n c xs) (hr : Rd w K D m ys) (hlen : n + m ≤ 1000000) (hbase : base ≤ w.heap.size) :
    ∃ A' c' w', (Builtin.append_ #[22, 22] ty #[.slice A n c, .slice D m d]).run Try.prog w = .ok (.slice A' (n + m) c') w' ∧ Ow w' base A' (n + m) c' (xs ++ ys) ∧ w.grownBy w' (A.map (·.block)) ∧ Below base w w' ∧
      (A'.map (·.block) = A.map (·.block) ∨ A'.map (·.block) = some w.heap.size) := by
  obtain ⟨i0, hi, hz0, hz1, hz2⟩ := info_parts Try.info3
  have key : ∃ v' w', (Builtin.append_ #[22, 22] ty #[.slice A n c, .slice D m d]).run Try.prog w = .ok v' w' ∧ w'.ownsRow base 3 1 v' (n + m) (xs.map (Value.int .i64) ++ ys.map (Value.int .i64)) ∧ w.grownBy w' (A.map (·.block)) ∧
      (v'.ownBlock = A.map (·.block) ∨ v'.ownBlock = some w.heap.size) := by
    rcases D with _ | ad
    · have hm : m = 0 := by
        rcases Nat.eq_zero_or_pos m with h0 | h0
        · exact h0
        · obtain ⟨_, _, h, _⟩ := hr.2 h0
          cases h
      subst hm
      have hn : ys = [] := List.eq_nil_of_length_eq_zero hr.1
      subst hn
      exact ⟨_, w, run_append_of_nil w base 22 _ 3 i0 1 Try.underlying22 hi _ n _ hown d, by simpa [Ow] using hown, World.grownBy.refl w _, .inl (ownBlock_slice _ _ _)⟩
    · have hcells : ∀ j u, (ys.map (Value.int .i64))[j]? = some u → w.cell? (ad.add j) = some u := by
        intro j u hu
        rw [List.getElem?_map] at hu
        obtain ⟨y, hy, rfl⟩ := Option.map_eq_some_iff.1 hu
        have hpos : 0 < m := by have := hr.1; have := (List.getElem?_eq_some_iff.1 hy).1; omega
        obtain ⟨b, o, e, _, hc⟩ := hr.2 hpos
        injection e with e
        subst e
        have := hc j y hy
        rw [← this]
        unfold Addr.add
        split
        · rename_i h0; subst h0; rfl
        · rfl
      obtain ⟨v', w', hrun, h2, h3, _, h5⟩ := run_append_own_at (P := Try.prog) w base 22 ty 3 i0 (.int .i64 0) 1 8 Try.underlying22 hi hz0 hz1 hz2 rfl (by omega) (.slice A n c) n _ hown ad m d _ (by rw [List.length_map, hr.1]; omega) hcells (ints_oneCell _ _) (by unfold maxLen; omega) (by omega) hbase
      rw [ownBlock_slice] at h3 h5
      exact ⟨v', w', hrun, h2, h3, h5⟩
  obtain ⟨v', w', hrun, h2, h3, h4⟩ := key
  obtain ⟨A', c', rfl⟩ := own_slice h2
  rw [ownBlock_slice] at h4
  have ho2 : Ow w' base A' (n + m) c' (xs ++ ys) := by unfold Ow; rw [List.map_append]; exact h2
  exact ⟨A', c', w', hrun, ho2, h3, own_below hown h3 hbase, h4⟩

/-- 'append(out, src...)' at a step of a region that draws its order. -/
theorem step_appS {ops : Array Oper} {o : Oper} {a : Act} {K : Act → World → Prop} {Q : Exit → Act → World → Prop} {E : Prop} (hw : Region.wanted o (yielded ops a.tmps) = true) (s x : Operand)
    (ho : o.op = .call { callee := .builtin .append, args := #[s, x], argTypes := #[22, 22] })
    (w : World) (base : Nat) (A : Option Addr) (n c : Nat) (xs : List Int) (D : Option Addr) (m d L : Nat) (ys : List Int)
    (hs : a.eval s = .slice A n c) (hx : a.eval x = .slice D m d) (hown : Ow w base A n c xs) (hr : Rd w L D m ys) (hlen : n + m ≤ 1000000) (hbase : base ≤ w.heap.size)
    (h : ∀ A' c' w', Ow w' base A' (n + m) c' (xs ++ ys) → w.grownBy w' (A.map (·.block)) → Below base w w' → (A'.map (·.block) = A.map (·.block) ∨ A'.map (·.block) = some w.heap.size) → K (a.put o.dst (.slice A' (n + m) c')) w') :
    if Region.wanted o (yielded ops a.tmps) = true then Oper.wp Try.prog o a w K Q else E := by
  obtain ⟨A', c', w', hrun, h1, h2, h3, h4⟩ := appS_run o.type w base A n c xs D m d L ys hown hr hlen hbase
  rw [if_pos hw]
  unfold Oper.wp execOp
  simp only [ho, resolve, invoke, builtin, Sem.run_bind, Sem.run_pure, Result.andThen_ok, List.map_toArray, List.map_cons, List.map_nil, hs, hx, hrun]
  exact h A' c' w' h1 h2 h3 h4

theorem Rd.drop {w : World} {B b o n : Nat} {xs : List Int} (h : Rd w B (some ⟨b, o, none⟩) n xs) (k : Nat) (_hk : k ≤ n) (A : Option Addr) (hA : k < n → A = some ⟨b, o + k, none⟩) : Rd w B A (n - k) (xs.drop k) := by
  refine ⟨by rw [List.length_drop, h.1], fun hn => ?_⟩
  obtain ⟨b', o', e, hb, hc⟩ := h.2 (by omega)
  injection e with e; injection e with e1 e2; subst e1; subst e2
  refine ⟨b, o + k, hA (by omega), hb, fun i y hy => ?_⟩
  rw [List.getElem?_drop] at hy
  have := hc (k + i) y hy
  rw [← this]; congr 2; omega

theorem ofL_take_old {xs : List Int} {k : Nat} {x : Int} (hx : xs[k]? = some x) (hm : x ∈ ofL (xs.take k)) : ofL (xs.take (k + 1)) = ofL (xs.take k) := by
  rw [srt_eq (ofL_srt _) (ofL_srt _)]
  intro y
  rw [ofL_mem, ofL_mem, List.take_add_one, hx]
  have := (ofL_mem _ _).1 hm
  simp only [Option.toList_some, List.mem_append, List.mem_singleton]
  exact ⟨fun h => h.elim id (fun e => by rw [e]; exact this), .inl⟩
theorem ofL_take_new {xs : List Int} {k p : Nat} {x : Int} (hx : xs[k]? = some x) (h1 : ∀ y ∈ (ofL (xs.take k)).take p, y < x) (h2 : ∀ y, (ofL (xs.take k))[p]? = some y → x < y) :
    ofL (xs.take (k + 1)) = (ofL (xs.take k)).take p ++ x :: (ofL (xs.take k)).drop p := by
  have hT := ofL_srt (xs.take k)
  have hm := ofL_mem (xs.take k)
  generalize ofL (xs.take k) = T at *
  rw [srt_eq (ofL_srt _)]
  · intro y
    rw [ofL_mem, List.take_add_one, hx]
    simp only [Option.toList_some, List.mem_append, List.mem_cons, List.not_mem_nil, or_false]
    have e : y ∈ T ↔ y ∈ T.take p ∨ y ∈ T.drop p := by
      rw [← List.mem_append, List.take_append_drop]
    rw [← hm, e]
    constructor
    · rintro ((h | h) | h)
      · exact .inl h
      · exact .inr (.inr h)
      · exact .inr (.inl h)
    · rintro (h | h | h)
      · exact .inl (.inl h)
      · exact .inr h
      · exact .inl (.inr h)
  · unfold Srt at *
    rw [List.pairwise_append, List.pairwise_cons]
    have hd : ∀ y ∈ T.drop p, x < y := by
      intro y hy
      obtain ⟨j, hj⟩ := List.getElem?_of_mem hy
      rw [List.getElem?_drop] at hj
      have hl := (List.getElem?_eq_some_iff.1 hj).1
      have hp := h2 _ (List.getElem?_eq_getElem (show p < T.length by omega))
      cases j with
      | zero => rw [Nat.add_zero, List.getElem?_eq_getElem (show p < T.length by omega)] at hj; injection hj with hj; omega
      | succ j =>
        have := srt_at hT (show p < p + (j + 1) by omega) (List.getElem?_eq_getElem (show p < T.length by omega)) hj
        omega
    refine ⟨hT.sublist (List.take_sublist _ _), ⟨hd, hT.sublist (List.drop_sublist _ _)⟩, fun a ha b hb => ?_⟩
    rcases List.mem_cons.1 hb with rfl | hb
    · exact h1 a ha
    · have := h1 a ha; have := hd b hb; omega
theorem below_drew {B : Nat} {a w : World} (h : Below B a w) : Below B a w.drew := ⟨h.os, h.tape, h.output, h.size, h.block⟩
theorem ofL_nil : ofL [] = [] := ofL_of_srt (by unfold Srt; exact List.Pairwise.nil)

set_option maxRecDepth 100000 in
set_option maxHeartbeats 2000000 in
theorem rof_c (A : Option Addr) (n c : Nat) (xs : List Int) (w : World) (hA : Rd w w.heap.size A n xs) (hn : n ≤ 1000) :
    Calls Try.prog 30 #[.slice A n c] w fun e w' => ∃ A' m c', e = .returned (.slice A' m c') ∧ m ≤ n ∧ Ow w' w.heap.size A' m c' (ofL xs) ∧ Below w.heap.size w w' := by
  have HL := Lib.hid hA.len
  go_enter Try.func30, Try.ntmps30
  go_wp2
  go_loopw [3, 4] (fun v i wr => ∃ (k g m c' : Nat), k ≤ n ∧ m ≤ k ∧ i = .int .i64 k ∧ v = .slice (some ⟨g, 0, none⟩) m c' ∧ Ow wr w.heap.size (some ⟨g, 0, none⟩) m c' (ofL (xs.take k)) ∧ Below w.heap.size w wr) (fun _ i _ => n - (intOf i).toNat)
  case atStart => exact ⟨0, w.heap.size, 0, 0, by omega, by omega, rfl, rfl, by rw [List.take_zero, ofL_nil]; exact own_empty w, (Below.refl _ _).alloc (Nat.le_refl _) _⟩
  case round =>
    obtain ⟨k, g, m, c', hk, hmk, rfl, rfl, hO, hB⟩ := hrel
    obtain ⟨wo, rfl⟩ : ∃ wo : World, wo = wr := ⟨_, rfl⟩
    have bsr := hB.size
    by_cases hlt : k < n
    · have rA := hA.below hB
      obtain ⟨b, o, rfl, hb, hc⟩ := rA.pos (by omega)
      obtain ⟨x, hx⟩ := getD_some xs k (by have := HL.out; omega)
      have d1 := hc k x hx
      have HX := Lib.hid hx
      have hcap := hO.cap
      clear hx hc rA
      have k0 : (0 : Int) ≤ (k : Int) := by omega
      have kn : (k : Int) < (n : Int) := by omega
      go_wp2
      go_loopw [5] (fun j wr => ∃ (p d : Nat), p ≤ m ∧ j = .int .i64 p ∧ (∀ y ∈ (ofL (xs.take k)).take p, y < x) ∧ wr = wo.drewN d) (fun j _ => m - (intOf j).toNat)
      case atStart => exact ⟨0, 0, by omega, rfl, fun y hy => by simp at hy, rfl⟩
      case round =>
        obtain ⟨p, d, hp, rfl, hlow, rfl⟩ := hrel
        have HLOW := Lib.hid hlow
        clear hlow
        have p0 : (0 : Int) ≤ (p : Int) := by omega
        by_cases hpm : p < m
        · obtain ⟨y, hy⟩ := getD_some (ofL (xs.take k)) p (by rw [hO.len]; exact hpm)
          have d2 := hO.cell hy
          have HY := Lib.hid hy
          clear hy
          have pm : (p : Int) < (m : Int) := by omega
          rcases Int.lt_trichotomy y x with hyx | hyx | hyx
          · have t1 : decide (y < x) = true := by simpa using hyx
            go_wp2
            go_quiet (fail)
            go_wp2
            go_roundw
            case rel => exact ⟨p + 1, d + nq, by omega, by go_num, low_snoc HY.out hyx HLOW.out, by simp⟩
            case measure => simp [intOf]; omega
          · subst hyx
            have t1 : decide (y < y) = false := by simp
            have HE := Lib.hid (ofL_take_old HX.out (List.mem_of_getElem? HY.out))
            go_wp2
            go_quiet (fail)
            go_wp2
            go_quiet (fail)
            go_wp2
            go_roundw
            case rel => exact ⟨k + 1, g, m, c', by omega, by omega, by go_num, rfl, by rw [HE.out]; exact hO, below_drewN hB _⟩
            case measure => simp [intOf]; omega
          · have t1 : decide (y < x) = false := by simp; omega
            have t2 : (y == x) = false := by rw [beq_eq_false_iff_ne]; omega
            go_wp2
            go_quiet (fail)
            go_wp2
            go_quiet (fail)
            go_wp2
            have HN := Lib.hid (ofL_take_new HX.out HLOW.out (fun z hz => by rw [HY.out] at hz; injection hz with hz; omega))
            have rT := hO.rd
            have lto := (hO.lt g 0 none rfl).2
            have pci : (p : Int) ≤ (c' : Int) := by omega
            have pmi : (p : Int) ≤ (m : Int) := by omega
            have bne := World.new_ne wo _ d1
            have b0' : b < wo.heap.size := by omega
            by_cases hcp : c' = p
            · subst hcp
              obtain rfl : m = c' := by omega
              have rdr : Rd wo wo.heap.size (some ⟨g, 0, none⟩) 0 ((ofL (xs.take k)).drop m) := by
                have := rT.drop m (Nat.le_refl _) (some ⟨g, 0, none⟩) (fun h => by omega)
                rw [Nat.sub_self] at this; exact this
              go_region_held3 (fun w' => w'.cell? ⟨b, o + k, none⟩ = some (.int .i64 x)) (first | go_keep | exact ck5) (first
                | (refine step_appS (by rfl) (.tmp 50) (.tmp 53) (by rfl) _ wo.heap.size _ _ _ [x] _ _ _ wo.heap.size ((ofL (xs.take k)).drop m) (by rfl) (by rfl) (by exact own_lit1 wo _ (Nat.le_refl _) x) (by exact rdr.alloc (Nat.le_refl _) _) (by omega) (by simp) ?_; intro A5 c5 w5 ho5 hgk hb5 hat5; have bb5 : Below wo.heap.size wo w5 := ((Below.refl wo.heap.size wo).alloc (Nat.le_refl _) (.cells #[.int .i64 x] 3)).trans ⟨hb5.os, hb5.tape, hb5.output, hb5.size, hb5.block⟩; have ck5 : w5.cell? ⟨b, o + k, none⟩ = some (.int .i64 x) := (bb5.cell b0').trans d1; clear hb5 hat5 hgk))
              have rt5 := (rT.take m (by omega)).call (Nat.le_refl _) bb5
              have bb := hB.trans (bb5.mono bsr)
              have bs5 := bb.size
              go_wp2_with first
                | (at_builtin; refine appS rfl (.tmp 55) (.tmp 58) rfl _ w5.heap.size _ _ _ [] _ _ _ _ _ (by rfl) (by rfl) (own_empty w5) (rt5.alloc (Nat.le_refl _) _) (by omega) (by simp) ?_; intro A6 c6 w6 ho6 hg6 hb6 hat6 hcap6; rw [Nat.zero_add] at ho6; have bb6 := ((Below.refl w5.heap.size w5).alloc (Nat.le_refl _) (.cells #[] 3)).trans hb6; clear hg6 hat6 hcap6 hb6; have bs6 := bb6.size; have ho5' := ho5.rd.call (Nat.le_refl _) bb6)
                | (at_builtin; refine appS rfl (.tmp 59) (.tmp 60) rfl w6 w5.heap.size _ _ _ _ _ _ _ _ _ (by rfl) (by rfl) ho6 ho5' (by omega) (by omega) ?_; intro A7 c7 w7 ho7 hg7 hb7 hat7 hcap7; have bb7 := bb6.trans hb7; clear hg7 hat7 hcap7 hb7)
              obtain ⟨g7, rfl, _⟩ := ho7.form (by omega)
              go_roundw
              case rel =>
                refine ⟨k + 1, g7, m + 1, c7, by omega, by omega, by go_num, by first | rfl | (congr 1; omega), ?_, bb.trans (bb7.mono bs5)⟩
                rw [HN.out]
                have e : m + 1 = m + (1 + 0) := by omega
                rw [e]
                exact (ho7.lower bs5)
              case measure => simp [intOf]; omega
            · have rdr : Rd wo wo.heap.size (some ⟨g, p, none⟩) (m - p) ((ofL (xs.take k)).drop p) := rT.drop p hp _ (fun _ => by rw [Nat.zero_add])
              go_region_held3 (fun w' => w'.cell? ⟨b, o + k, none⟩ = some (.int .i64 x)) (first | go_keep | exact ck5) (first
                | (refine step_appS (by rfl) (.tmp 50) (.tmp 53) (by rfl) _ wo.heap.size _ _ _ [x] _ _ _ wo.heap.size ((ofL (xs.take k)).drop p) (by rfl) (by rfl) (by exact own_lit1 wo _ (Nat.le_refl _) x) (by exact rdr.alloc (Nat.le_refl _) _) (by omega) (by simp) ?_; intro A5 c5 w5 ho5 hgk hb5 hat5; have bb5 : Below wo.heap.size wo w5 := ((Below.refl wo.heap.size wo).alloc (Nat.le_refl _) (.cells #[.int .i64 x] 3)).trans ⟨hb5.os, hb5.tape, hb5.output, hb5.size, hb5.block⟩; have ck5 : w5.cell? ⟨b, o + k, none⟩ = some (.int .i64 x) := (bb5.cell b0').trans d1; clear hb5 hat5 hgk))
              have rt5 := (rT.take p (by omega)).call (Nat.le_refl _) bb5
              have bb := hB.trans (bb5.mono bsr)
              have bs5 := bb.size
              go_wp2_with first
                | (at_builtin; refine appS rfl (.tmp 55) (.tmp 58) rfl _ w5.heap.size _ _ _ [] _ _ _ _ _ (by rfl) (by rfl) (own_empty w5) (rt5.alloc (Nat.le_refl _) _) (by omega) (by simp) ?_; intro A6 c6 w6 ho6 hg6 hb6 hat6 hcap6; rw [Nat.zero_add] at ho6; have bb6 := ((Below.refl w5.heap.size w5).alloc (Nat.le_refl _) (.cells #[] 3)).trans hb6; clear hg6 hat6 hcap6 hb6; have bs6 := bb6.size; have ho5' := ho5.rd.call (Nat.le_refl _) bb6)
                | (at_builtin; refine appS rfl (.tmp 59) (.tmp 60) rfl w6 w5.heap.size _ _ _ _ _ _ _ _ _ (by rfl) (by rfl) ho6 ho5' (by omega) (by omega) ?_; intro A7 c7 w7 ho7 hg7 hb7 hat7 hcap7; have bb7 := bb6.trans hb7; clear hg7 hat7 hcap7 hb7)
              obtain ⟨g7, rfl, _⟩ := ho7.form (by omega)
              go_roundw
              case rel =>
                refine ⟨k + 1, g7, m + 1, c7, by omega, by omega, by go_num, by first | rfl | (congr 1; omega), ?_, bb.trans (bb7.mono bs5)⟩
                rw [HN.out]
                have e : m + 1 = p + (1 + (m - p)) := by omega
                rw [e]
                exact (ho7.lower bs5)
              case measure => simp [intOf]; omega
        · have pm : decide ((p : Int) < (m : Int)) = false := by simp; omega
          go_wp2
          go_quiet (fail)
          go_wp2
          go_quiet (fail)
          go_wp2
          have HN := Lib.hid (ofL_take_new HX.out HLOW.out (fun z hz => by have := (List.getElem?_eq_some_iff.1 hz).1; rw [hO.len] at this; omega))
          have rT := hO.rd
          have lto := (hO.lt g 0 none rfl).2
          have pci : (p : Int) ≤ (c' : Int) := by omega
          have pmi : (p : Int) ≤ (m : Int) := by omega
          have bne := World.new_ne wo _ d1
          have b0' : b < wo.heap.size := by omega
          by_cases hcp : c' = p
          · subst hcp
            obtain rfl : m = c' := by omega
            have rdr : Rd wo wo.heap.size (some ⟨g, 0, none⟩) 0 ((ofL (xs.take k)).drop m) := by
              have := rT.drop m (Nat.le_refl _) (some ⟨g, 0, none⟩) (fun h => by omega)
              rw [Nat.sub_self] at this; exact this
            go_region_held3 (fun w' => w'.cell? ⟨b, o + k, none⟩ = some (.int .i64 x)) (first | go_keep | exact ck5) (first
              | (refine step_appS (by rfl) (.tmp 50) (.tmp 53) (by rfl) _ wo.heap.size _ _ _ [x] _ _ _ wo.heap.size ((ofL (xs.take k)).drop m) (by rfl) (by rfl) (by exact own_lit1 wo _ (Nat.le_refl _) x) (by exact rdr.alloc (Nat.le_refl _) _) (by omega) (by simp) ?_; intro A5 c5 w5 ho5 hgk hb5 hat5; have bb5 : Below wo.heap.size wo w5 := ((Below.refl wo.heap.size wo).alloc (Nat.le_refl _) (.cells #[.int .i64 x] 3)).trans ⟨hb5.os, hb5.tape, hb5.output, hb5.size, hb5.block⟩; have ck5 : w5.cell? ⟨b, o + k, none⟩ = some (.int .i64 x) := (bb5.cell b0').trans d1; clear hb5 hat5 hgk))
            have rt5 := (rT.take m (by omega)).call (Nat.le_refl _) bb5
            have bb := hB.trans (bb5.mono bsr)
            have bs5 := bb.size
            go_wp2_with first
              | (at_builtin; refine appS rfl (.tmp 55) (.tmp 58) rfl _ w5.heap.size _ _ _ [] _ _ _ _ _ (by rfl) (by rfl) (own_empty w5) (rt5.alloc (Nat.le_refl _) _) (by omega) (by simp) ?_; intro A6 c6 w6 ho6 hg6 hb6 hat6 hcap6; rw [Nat.zero_add] at ho6; have bb6 := ((Below.refl w5.heap.size w5).alloc (Nat.le_refl _) (.cells #[] 3)).trans hb6; clear hg6 hat6 hcap6 hb6; have bs6 := bb6.size; have ho5' := ho5.rd.call (Nat.le_refl _) bb6)
              | (at_builtin; refine appS rfl (.tmp 59) (.tmp 60) rfl w6 w5.heap.size _ _ _ _ _ _ _ _ _ (by rfl) (by rfl) ho6 ho5' (by omega) (by omega) ?_; intro A7 c7 w7 ho7 hg7 hb7 hat7 hcap7; have bb7 := bb6.trans hb7; clear hg7 hat7 hcap7 hb7)
            obtain ⟨g7, rfl, _⟩ := ho7.form (by omega)
            go_roundw
            case rel =>
              refine ⟨k + 1, g7, m + 1, c7, by omega, by omega, by go_num, by first | rfl | (congr 1; omega), ?_, bb.trans (bb7.mono bs5)⟩
              rw [HN.out]
              have e : m + 1 = m + (1 + 0) := by omega
              rw [e]
              exact (ho7.lower bs5)
            case measure => simp [intOf]; omega
          · have rdr : Rd wo wo.heap.size (some ⟨g, p, none⟩) (m - p) ((ofL (xs.take k)).drop p) := rT.drop p hp _ (fun _ => by rw [Nat.zero_add])
            go_region_held3 (fun w' => w'.cell? ⟨b, o + k, none⟩ = some (.int .i64 x)) (first | go_keep | exact ck5) (first
              | (refine step_appS (by rfl) (.tmp 50) (.tmp 53) (by rfl) _ wo.heap.size _ _ _ [x] _ _ _ wo.heap.size ((ofL (xs.take k)).drop p) (by rfl) (by rfl) (by exact own_lit1 wo _ (Nat.le_refl _) x) (by exact rdr.alloc (Nat.le_refl _) _) (by omega) (by simp) ?_; intro A5 c5 w5 ho5 hgk hb5 hat5; have bb5 : Below wo.heap.size wo w5 := ((Below.refl wo.heap.size wo).alloc (Nat.le_refl _) (.cells #[.int .i64 x] 3)).trans ⟨hb5.os, hb5.tape, hb5.output, hb5.size, hb5.block⟩; have ck5 : w5.cell? ⟨b, o + k, none⟩ = some (.int .i64 x) := (bb5.cell b0').trans d1; clear hb5 hat5 hgk))
            have rt5 := (rT.take p (by omega)).call (Nat.le_refl _) bb5
            have bb := hB.trans (bb5.mono bsr)
            have bs5 := bb.size
            go_wp2_with first
              | (at_builtin; refine appS rfl (.tmp 55) (.tmp 58) rfl _ w5.heap.size _ _ _ [] _ _ _ _ _ (by rfl) (by rfl) (own_empty w5) (rt5.alloc (Nat.le_refl _) _) (by omega) (by simp) ?_; intro A6 c6 w6 ho6 hg6 hb6 hat6 hcap6; rw [Nat.zero_add] at ho6; have bb6 := ((Below.refl w5.heap.size w5).alloc (Nat.le_refl _) (.cells #[] 3)).trans hb6; clear hg6 hat6 hcap6 hb6; have bs6 := bb6.size; have ho5' := ho5.rd.call (Nat.le_refl _) bb6)
              | (at_builtin; refine appS rfl (.tmp 59) (.tmp 60) rfl w6 w5.heap.size _ _ _ _ _ _ _ _ _ (by rfl) (by rfl) ho6 ho5' (by omega) (by omega) ?_; intro A7 c7 w7 ho7 hg7 hb7 hat7 hcap7; have bb7 := bb6.trans hb7; clear hg7 hat7 hcap7 hb7)
            obtain ⟨g7, rfl, _⟩ := ho7.form (by omega)
            go_roundw
            case rel =>
              refine ⟨k + 1, g7, m + 1, c7, by omega, by omega, by go_num, by first | rfl | (congr 1; omega), ?_, bb.trans (bb7.mono bs5)⟩
              rw [HN.out]
              have e : m + 1 = p + (1 + (m - p)) := by omega
              rw [e]
              exact (ho7.lower bs5)
            case measure => simp [intOf]; omega
    · go_wp2
      go_ret
      obtain rfl : k = n := by omega
      rw [List.take_of_length_le (by have := HL.out; omega)] at hO
      exact ⟨_, _, _, rfl, hmk, hO, hB⟩

set_option maxHeartbeats 1000000 in
theorem runion_c (A : Option Addr) (n c : Nat) (xs : List Int) (B : Option Addr) (m d : Nat) (ys : List Int) (w : World) (hA : Rd w w.heap.size A n xs) (hB : Rd w w.heap.size B m ys) (hn : n ≤ 400) (hm : m ≤ 400) :
    Calls Try.prog 33 #[.slice A n c, .slice B m d] w fun e w' => ∃ A' k c', e = .returned (.slice A' k c') ∧ k ≤ n + m ∧ Ow w' w.heap.size A' k c' (ofL (xs ++ ys)) ∧ Below w.heap.size w w' := by
  go_enter Try.func33, Try.ntmps33
  go_wp2_with first
    | (at_builtin; refine appS rfl (.tmp 5) (.tmp 6) rfl _ w.heap.size _ _ _ [] _ _ _ _ _ (by rfl) (by rfl) (own_empty w) (hA.alloc (Nat.le_refl _) _) (by omega) (by simp) ?_; intro A5 c5 w5 ho5 hg5 hb5 hat5 hcap5; rw [Nat.zero_add, List.nil_append] at ho5; have bb5 := ((Below.refl w.heap.size w).alloc (Nat.le_refl _) (.cells #[] 3)).trans hb5; clear hg5 hat5 hcap5 hb5; have bs5 := bb5.size)
    | (at_builtin; refine appS rfl (.tmp 7) (.tmp 8) rfl w5 w.heap.size _ _ _ _ _ _ _ _ _ (by rfl) (by rfl) ho5 (hB.below bb5) (by omega) bs5 ?_; intro A6 c6 w6 ho6 hg6 hb6 hat6 hcap6; have bb6 := bb5.trans hb6; clear hg6 hat6 hcap6 hb6)
  refine (rof_c _ _ _ _ _ ho6.rd (by omega)).mono ?_
  rintro e w7 ⟨A7, m7, c7, rfl, hm7, ho7, hb7⟩
  have bs6 := bb6.size
  have b7 := below_call bb6 hb7
  have o7 := ho7.lower bs6
  clear ho7 hb7 bb6
  go_wp2
  go_ret
  exact ⟨_, _, _, rfl, hm7, o7, b7⟩

theorem ofL_filtertrue (X Y : List Int) : ofL (X.filter fun x => decide (x ∈ Y)) = siftL X Y true := by
  rw [srt_eq (ofL_srt _) (siftL_srt _ _ _)]
  intro x
  simp [ofL_mem, mem_sift, List.mem_filter]
set_option maxRecDepth 100000 in
set_option maxHeartbeats 1000000 in
theorem rmeet_c (A : Option Addr) (n c : Nat) (xs : List Int) (B : Option Addr) (m d : Nat) (ys : List Int) (w : World) (hA : Rd w w.heap.size A n xs) (hB : Rd w w.heap.size B m ys) (hn : n ≤ 1000) (hm : m ≤ 1000) :
    Calls Try.prog 34 #[.slice A n c, .slice B m d] w fun e w' => ∃ A' k c', e = .returned (.slice A' k c') ∧ k ≤ n ∧ Ow w' w.heap.size A' k c' (siftL xs ys true) ∧ Below w.heap.size w w' := by
  have HL := Lib.hid hA.len
  go_enter Try.func34, Try.ntmps34
  go_wp2
  go_loopw [5, 6] (fun v i wr => ∃ (k g q c' : Nat), k ≤ n ∧ q ≤ k ∧ i = .int .i64 k ∧ v = .slice (some ⟨g, 0, none⟩) q c' ∧ Ow wr w.heap.size (some ⟨g, 0, none⟩) q c' ((xs.take k).filter fun x => decide (x ∈ ys)) ∧ Below w.heap.size w wr) (fun _ i _ => n - (intOf i).toNat)
  case atStart => exact ⟨0, w.heap.size, 0, 0, by omega, by omega, rfl, rfl, own_empty w, (Below.refl _ _).alloc (Nat.le_refl _) _⟩
  case round =>
    obtain ⟨k, g, q, c', hk, hq, rfl, rfl, hO, hBw⟩ := hrel
    have bsr := hBw.size
    by_cases hlt : k < n
    · have rA := hA.below hBw
      have rB := hB.call (Nat.le_refl _) hBw
      obtain ⟨b, o, rfl, hb, hc⟩ := rA.pos (by omega)
      obtain ⟨x, hx⟩ := getD_some xs k (by have := HL.out; omega)
      have d1 := hc k x hx
      have hsn := take_filter_snoc hx (fun x => decide (x ∈ ys))
      have hh := fun w0 (h0 : Rd w0 w0.heap.size B m ys) => rhas_c B m d ys x w0 h0 (by omega)
      clear hx hc rA
      cases hf : decide (x ∈ ys)
      · rw [hf] at hh
        simp only [hf, Bool.false_eq_true, if_false] at hsn
        have HS := Lib.hid hsn; have HH := Lib.hid hh
        clear hsn hh hf
        go_wp2_with first
          | (go_at_call 32; refine (HH.out _ rB).mono ?_; rintro e w' ⟨rfl, rfl⟩)
          | (at_builtin; refine app1 rfl (.tmp 20) (.tmp 25) rfl wr w.heap.size _ _ _ _ _ (by rfl) (by rfl) hO (by omega) (by omega) ?_; intro g5 c5 w5 ho5 hg5 hb5 hat5 hcap5)
        go_roundw
        case rel => exact ⟨k + 1, g, q, c', by omega, by omega, by go_num, rfl, by rw [HS.out, List.append_nil]; exact hO, hBw⟩
        case measure => simp [intOf]; omega
      · rw [hf] at hh
        simp only [hf, if_true] at hsn
        have HS := Lib.hid hsn; have HH := Lib.hid hh
        clear hsn hh hf
        go_wp2_with first
          | (go_at_call 32; refine (HH.out _ rB).mono ?_; rintro e w' ⟨rfl, rfl⟩)
          | (at_builtin; refine app1 rfl (.tmp 20) (.tmp 25) rfl wr w.heap.size _ _ _ _ _ (by rfl) (by rfl) hO (by omega) (by omega) ?_; intro g5 c5 w5 ho5 hg5 hb5 hat5 hcap5)
        go_roundw
        case rel => exact ⟨k + 1, g5, q + 1, c5, by omega, by omega, by go_num, rfl, by rw [HS.out]; exact ho5, hBw.trans hb5⟩
        case measure => simp [intOf]; omega
    · obtain rfl : k = n := by omega
      rw [List.take_of_length_le (by have := HL.out; omega)] at hO
      have rO := hO.rd
      clear hO
      go_wp2_with fail
      refine (rof_c _ _ _ _ _ rO (by omega)).mono ?_
      rintro e w7 ⟨A7, m7, c7, rfl, hm7, ho7, hb7⟩
      have b7 := below_call hBw hb7
      have o7 := ho7.lower bsr
      rw [ofL_filtertrue] at o7
      clear ho7 hb7
      go_wp2
      go_ret
      exact ⟨_, _, _, rfl, by omega, o7, b7⟩

theorem ofL_filterfalse (X Y : List Int) : ofL (X.filter fun x => !decide (x ∈ Y)) = siftL X Y false := by
  rw [srt_eq (ofL_srt _) (siftL_srt _ _ _)]
  intro x
  simp [ofL_mem, mem_sift, List.mem_filter]
set_option maxRecDepth 100000 in
set_option maxHeartbeats 1000000 in
theorem rminus_c (A : Option Addr) (n c : Nat) (xs : List Int) (B : Option Addr) (m d : Nat) (ys : List Int) (w : World) (hA : Rd w w.heap.size A n xs) (hB : Rd w w.heap.size B m ys) (hn : n ≤ 1000) (hm : m ≤ 1000) :
    Calls Try.prog 35 #[.slice A n c, .slice B m d] w fun e w' => ∃ A' k c', e = .returned (.slice A' k c') ∧ k ≤ n ∧ Ow w' w.heap.size A' k c' (siftL xs ys false) ∧ Below w.heap.size w w' := by
  have HL := Lib.hid hA.len
  go_enter Try.func35, Try.ntmps35
  go_wp2
  go_loopw [5, 6] (fun v i wr => ∃ (k g q c' : Nat), k ≤ n ∧ q ≤ k ∧ i = .int .i64 k ∧ v = .slice (some ⟨g, 0, none⟩) q c' ∧ Ow wr w.heap.size (some ⟨g, 0, none⟩) q c' ((xs.take k).filter fun x => !decide (x ∈ ys)) ∧ Below w.heap.size w wr) (fun _ i _ => n - (intOf i).toNat)
  case atStart => exact ⟨0, w.heap.size, 0, 0, by omega, by omega, rfl, rfl, own_empty w, (Below.refl _ _).alloc (Nat.le_refl _) _⟩
  case round =>
    obtain ⟨k, g, q, c', hk, hq, rfl, rfl, hO, hBw⟩ := hrel
    have bsr := hBw.size
    by_cases hlt : k < n
    · have rA := hA.below hBw
      have rB := hB.call (Nat.le_refl _) hBw
      obtain ⟨b, o, rfl, hb, hc⟩ := rA.pos (by omega)
      obtain ⟨x, hx⟩ := getD_some xs k (by have := HL.out; omega)
      have d1 := hc k x hx
      have hsn := take_filter_snoc hx (fun x => !decide (x ∈ ys))
      have hh := fun w0 (h0 : Rd w0 w0.heap.size B m ys) => rhas_c B m d ys x w0 h0 (by omega)
      clear hx hc rA
      cases hf : decide (x ∈ ys)
      · rw [hf] at hh
        simp only [hf, Bool.not_false, if_true] at hsn
        have HS := Lib.hid hsn; have HH := Lib.hid hh
        clear hsn hh hf
        go_wp2_with first
          | (go_at_call 32; refine (HH.out _ rB).mono ?_; rintro e w' ⟨rfl, rfl⟩)
          | (at_builtin; refine app1 rfl (.tmp 21) (.tmp 26) rfl wr w.heap.size _ _ _ _ _ (by rfl) (by rfl) hO (by omega) (by omega) ?_; intro g5 c5 w5 ho5 hg5 hb5 hat5 hcap5)
        go_roundw
        case rel => exact ⟨k + 1, g5, q + 1, c5, by omega, by omega, by go_num, rfl, by rw [HS.out]; exact ho5, hBw.trans hb5⟩
        case measure => simp [intOf]; omega
      · rw [hf] at hh
        simp only [hf, Bool.not_true, Bool.false_eq_true, if_false] at hsn
        have HS := Lib.hid hsn; have HH := Lib.hid hh
        clear hsn hh hf
        go_wp2_with first
          | (go_at_call 32; refine (HH.out _ rB).mono ?_; rintro e w' ⟨rfl, rfl⟩)
          | (at_builtin; refine app1 rfl (.tmp 21) (.tmp 26) rfl wr w.heap.size _ _ _ _ _ (by rfl) (by rfl) hO (by omega) (by omega) ?_; intro g5 c5 w5 ho5 hg5 hb5 hat5 hcap5)
        go_roundw
        case rel => exact ⟨k + 1, g, q, c', by omega, by omega, by go_num, rfl, by rw [HS.out, List.append_nil]; exact hO, hBw⟩
        case measure => simp [intOf]; omega
    · obtain rfl : k = n := by omega
      rw [List.take_of_length_le (by have := HL.out; omega)] at hO
      have rO := hO.rd
      clear hO
      go_wp2_with fail
      refine (rof_c _ _ _ _ _ rO (by omega)).mono ?_
      rintro e w7 ⟨A7, m7, c7, rfl, hm7, ho7, hb7⟩
      have b7 := below_call hBw hb7
      have o7 := ho7.lower bsr
      rw [ofL_filterfalse] at o7
      clear ho7 hb7
      go_wp2
      go_ret
      exact ⟨_, _, _, rfl, by omega, o7, b7⟩

theorem rsub_c (A : Option Addr) (n c : Nat) (xs : List Int) (B : Option Addr) (m d : Nat) (ys : List Int) (w : World) (hA : Rd w w.heap.size A n xs) (hB : Rd w w.heap.size B m ys) (hn : n ≤ 1000) (hm : m ≤ 1000) :
    Calls Try.prog 36 #[.slice A n c, .slice B m d] w fun e w' => e = .returned (.bool (decide (siftL xs ys false = []))) ∧ Below w.heap.size w w' := by
  go_enter Try.func36, Try.ntmps36
  go_wp2_with fail
  refine (rminus_c _ _ _ _ _ _ _ _ _ hA hB hn hm).mono ?_
  rintro e w1 ⟨A1, k, c1, rfl, hk, ho1, hb1⟩
  have hl := ho1.len
  clear ho1
  have e : ((k : Int) == 0) = decide (siftL xs ys false = []) := by
    rw [Bool.eq_iff_iff, ← hl]; simp
  have HE := Lib.hid e
  clear e hl
  go_wp2
  go_ret
  exact ⟨ret_bool HE.out, hb1⟩

end Go.Proofs.Ytladdpfngoldcaa
