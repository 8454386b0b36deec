/- Walks: ScriptPermutes. -/
import Derived.Test.YtdacfcfgikllpaaW18
import Derived.Test.YtdacfcfgikllpaaLawC
namespace Go.Proofs.Ytdacfcfgikllpaa
open Go.RowKit

theorem Try.info4 : (Try.prog.info? 4).map (fun i => (i.zero, i.size, i.bytes)) = some (some (.bool false), 1, 1) := by kernel_rfl

/-- A row of bools, the call's own. -/
def OwB (w : World) (base : Nat) (A : Option Addr) (n c : Nat) (bs : List Bool) : Prop := w.ownsRow base 4 1 (.slice A n c) n (bs.map Value.bool)
theorem OwB.drewN {w : World} {base n c : Nat} {A : Option Addr} {bs : List Bool} (h : OwB w base A n c bs) (k : Nat) : OwB (w.drewN k) base A n c bs := h
theorem OwB.len {w : World} {base n c : Nat} {A : Option Addr} {bs : List Bool} (h : OwB w base A n c bs) : bs.length = n := by have := h.1; simpa using this
theorem OwB.frozen {w : World} {base n c g : Nat} {bs : List Bool} (h : OwB w base (some ⟨g, 0, none⟩) n c bs) (j : Nat) : w.frozen? ⟨g, j, none⟩ = false := by
  have hc : w.ownsRow base 4 1 (.slice (some ⟨g, 0, none⟩) n c) n (bs.map Value.bool) := h
  exact World.ownsRow.frozenAt hc j
theorem OwB.cell {w : World} {base n c g : Nat} {bs : List Bool} (h : OwB w base (some ⟨g, 0, none⟩) n c bs) {j : Nat} {x : Bool} (hj : bs[j]? = some x) : w.cell? ⟨g, j, none⟩ = some (.bool x) := by
  have hi : j < n := by
    have h1 := h.len
    have h2 := (List.getElem?_eq_some_iff.1 hj).1
    omega
  have := World.ownsRow.cellAt h j (by omega)
  rw [this, List.getElem?_map, hj]; rfl
theorem OwB.stored {w : World} {base n c g : Nat} {bs : List Bool} (h : OwB w base (some ⟨g, 0, none⟩) n c bs) (j : Nat) (x : Bool) : OwB (w.setCell ⟨g, j, none⟩ (.bool x)) base (some ⟨g, 0, none⟩) n c (bs.set j x) := by
  have := (World.ownsRow.stored h j (.bool x)).1
  unfold OwB
  rw [List.map_set]; exact this
/-- 'make([]bool, n)': the call's own. -/
theorem mkB {ops : Array Oper} {rest : List Oper} {o : Oper} {a : Act} {Q : Exit → Act → World → Prop} (hg : o.guard = none) (l c : Operand) (hop : o.op = Op.makeSlice 29 l c)
    (w : World) (base n : Nat) (L C : Int) (hl : a.eval l = .int .i64 L) (hc : a.eval c = .int .i64 C) (hL : L = (n : Int)) (hC : C = (n : Int)) (hn : n ≤ 1000000) (hb : base ≤ w.heap.size)
    (hK : ∀ w', OwB w' base (some ⟨w.heap.size, 0, none⟩) n n (List.replicate n false) → Below w.heap.size w w' → w.heap.size < w'.heap.size → wpList Try.prog ops Q rest (a.put o.dst (.slice (some ⟨w.heap.size, 0, none⟩) n n)) w') :
    wpList Try.prog ops Q (o :: rest) a w := by
  obtain ⟨i0, hi, hz0, hz1, hz2⟩ := info_parts Try.info4
  refine wpList_make_full w hg l c 29 hop base 4 i0 (.bool false) 1 Try.underlying29 hi hz0 hz1 .i64 .i64 L C n hl hc hL hC (by rw [hz2]; omega) (by unfold maxLen; omega) hb ?_
  intro w' ho hgr
  have ho2 : OwB w' base (some ⟨w.heap.size, 0, none⟩) n n (List.replicate n false) := by
    unfold OwB
    have e : (madeCells (Value.bool false).cells (n * 1)).toList = (List.replicate n false).map Value.bool := by
      rw [show (Value.bool false).cells = #[Value.bool false] from rfl, toList_madeCells_one, List.map_replicate, Nat.mul_one]
    rw [← e]; exact ho
  exact hK w' ho2 ((Below.refl _ _).grown hgr (Nat.le_refl _) (fun k hk => by cases hk)) (World.ownsRow.lt ho2 _ rfl).2

/-- Which places have been met. -/
def met (xs : List Int) (k : Nat) : List Bool := (List.range xs.length).map fun j => decide (j ∈ (orderL xs).take k)
theorem met_zero (xs : List Int) : met xs 0 = List.replicate xs.length false := by
  unfold met
  apply List.ext_getElem? ; intro i
  simp [List.getElem?_replicate]
  split
  · rename_i h; simp [h]
  · rename_i h; simp; omega
theorem met_at (xs : List Int) (k j : Nat) (h : j < xs.length) : (met xs k)[j]? = some (decide (j ∈ (orderL xs).take k)) := by
  unfold met; simp [h]
theorem met_succ {xs : List Int} {k p : Nat} (h : (orderL xs)[k]? = some p) : met xs (k + 1) = (met xs k).set p true := by
  apply List.ext_getElem?
  intro i
  unfold met
  rw [List.getElem?_set]
  by_cases hi : i < xs.length
  · by_cases e : p = i
    · subst e; rw [if_pos rfl]; simp [hi, List.take_add_one, h]
    · rw [if_neg e]
      simp [hi, List.take_add_one, h]
      omega
  · have := order_lt h
    rw [if_neg (by omega), List.getElem?_eq_none (by simp; omega), List.getElem?_eq_none (by simp; omega)]
theorem ints_get {l : List Nat} {k p : Nat} (h : l[k]? = some p) : (ints l)[k]? = some (p : Int) := by simp [ints, h]
theorem below_set {w0 w : World} {B g : Nat} (h : Below B w0 w) (hg : B ≤ g) (j : Nat) (u : Value) : Below B w0 (w.setCell ⟨g, j, none⟩ u) := h.setCell hg u

/-- What is known of the cluster of the last place. -/
def PrevAt (xs : List Int) (k : Nat) (u : Int) : Prop := (k = 0 ∧ u = -1) ∨ ∃ (v p : Nat), 0 < k ∧ u = v ∧ (orderL xs)[k - 1]? = some p ∧ (clustersL xs)[v]? = some (clu xs p)
theorem prev_step {xs : List Int} {k j a p : Nat} {u : Int} (h : PrevAt xs k u) (hp : (orderL xs)[k]? = some p) (ha : (clustersL xs)[j]? = some a) (hle : a ≤ p) (hn : ∀ b, (clustersL xs)[j + 1]? = some b → p < b) :
    decide ((j : Int) < u) = false ∧ PrevAt xs (k + 1) (j : Int) := by
  have e := clusters_at (order_lt hp) ha hle hn
  subst e
  refine ⟨?_, .inr ⟨j, p, by omega, rfl, hp, ha⟩⟩
  rcases h with ⟨_, rfl⟩ | ⟨v, q, h0, rfl, hq, hv⟩
  · exact decide_eq_false (by omega)
  · obtain ⟨k', rfl⟩ : ∃ k', k = k' + 1 := ⟨k - 1, by omega⟩
    have := clusters_mono hv ha (order_clu hq hp)
    exact decide_eq_false (by omega)

set_option maxRecDepth 100000 in
set_option maxHeartbeats 2000000 in
theorem scriptPermutes_walk (a0 : Option Addr) (len0 cap0 : Nat) (z0 : List Int) (w : World) (w0 : IsRow .i64 w a0 len0 cap0 z0) :
    Calls Try.prog 5 #[.slice a0 len0 cap0] w fun e w' => e = .returned (.bool true) ∧ Below w.heap.size w w' := by
  obtain ⟨r0, hlc, hcm⟩ := w0.rd
  go_enter Try.func5, Try.ntmps5
  go_wp2_with fail
  refine (lshown_c _).mono ?_
  rintro e w1 ⟨rfl, b1⟩
  have r1 := r0.call (Nat.le_refl _) b1
  clear r0
  go_wp2_with fail
  refine (cut_c _ _ _ _ _ r1 hlc hcm).mono ?_
  rintro e w2 ⟨A, c, rfl, ho, hb2⟩
  have b2 := below_call b1 hb2
  have r2 := ho.rd
  have hn : min len0 40 ≤ 40 := by omega
  generalize (z0.take len0).take 40 = xs at *
  generalize min len0 40 = n at *
  clear r1 b1 hb2 ho w0
  go_wp2_with fail
  refine (order_c _ _ _ _ _ r2 hn).mono ?_
  rintro e w3 ⟨A3, m3, c3, rfl, hm3, ho3, hb3⟩
  have b3 := below_call b2 hb3
  have r3 := r2.call (Nat.le_refl _) hb3
  clear b2 r2 hb3
  go_wp2_with fail
  refine (clusters_c _ _ _ _ _ r3 hn).mono ?_
  rintro e w4 ⟨A4, m4, c4, rfl, hm4, ho4, hb4⟩
  have b4 := below_call b3 hb4
  have ho5 := ho3.call hb4
  have hl := r3.len
  have hl3 : m3 = n := by have := ho3.len; have := order_length xs; simp [ints] at *; omega
  have hl4 := ho4.len
  have hcp := clusters_pos xs
  obtain rfl := hl3
  clear b3 hb4 ho3 r3 hm3
  have q3 := ho5.rd
  have q4 := ho4.rd
  have hml : (clustersL xs).length = m4 := by simpa [ints] using hl4
  rw [hml, hl] at hcp
  have HL := Lib.hid hl; have HML := Lib.hid hml
  clear hl hml hl4 ho4 ho5
  have HC0 := Lib.hid hcp
  have B4 := Lib.hid b4
  clear b4 hcp
  have hm3 : m3 ≤ 40 := hn
  rcases Nat.eq_zero_or_pos m3 with h0 | h0
  case' inl =>
    have t3 : decide (0 < m3) = false := by simp; omega
    have t4 : decide (0 < m4) = false := by have := HC0.out; simp; omega
    have H0 := Lib.hid h0; clear h0
    go_wp2_with (at_make; refine mkB rfl _ _ rfl w4 w4.heap.size m3 _ _ (by rfl) (by rfl) rfl rfl (by omega) (Nat.le_refl _) ?_; intro w5 ho5 hb5 hz5)
    clear H0 t3 t4
  case' inr =>
    have h4 : 0 < m4 := HC0.out.2 h0
    obtain ⟨g4, o4, rfl, hg4, hc4⟩ := q4.pos h4
    have d0 : w4.cell? ⟨g4, o4, none⟩ = some (.int .i64 0) := hc4 0 _ (ints_get (clusters_zero (by rw [HL.out]; exact h0)))
    clear hc4
    go_wp2_with (at_make; refine mkB rfl _ _ rfl w4 w4.heap.size m3 _ _ (by rfl) (by rfl) rfl rfl (by omega) (Nat.le_refl _) ?_; intro w5 ho5 hb5 hz5)
    clear d0 h0 h4 hg4
  all_goals
    go_loopw [7, 8] (fun t i wr => ∃ (k : Nat) (u : Int), k ≤ m3 ∧ i = .int .i64 k ∧ t = .int .i64 u ∧ PrevAt xs k u ∧ OwB wr w4.heap.size (some ⟨w4.heap.size, 0, none⟩) m3 m3 (met xs k) ∧ Below w4.heap.size w4 wr) (fun _ i _ => m3 - (intOf i).toNat)
    case atStart => exact ⟨0, -1, by omega, rfl, rfl, .inl ⟨rfl, rfl⟩, by rw [met_zero, HL.out]; exact ho5, hb5⟩
    case round =>
      obtain ⟨k, u, hk, rfl, rfl, hpr, hS, hB⟩ := hrel
      clear ho5 hb5 hz5
      have HPR := Lib.hid hpr; clear hpr
      have HB := Lib.hid hB
      have r3 := q3.below hB
      have r4 := q4.below hB
      clear hB
      by_cases hlt : k < m3
      · obtain ⟨b3, o3, rfl, hb3, hc3⟩ := r3.pos (by omega)
        obtain ⟨b4, o4', e4, hb4, hc4⟩ := r4.pos (HC0.out.2 (by omega))
        first | subst e4 | (injection e4 with e4; injection e4 with e41 e42; have e41' := e41.symm; have e42' := e42.symm; clear e41 e42; subst e41'; subst e42')
        obtain ⟨p, hp⟩ : ∃ p, (orderL xs)[k]? = some p := ⟨_, List.getElem?_eq_getElem (by rw [order_length, HL.out]; exact hlt)⟩
        have hpl := order_lt hp
        rw [HL.out] at hpl
        have c1 := hc3 k _ (ints_get hp)
        have c2 : wr.cell? ⟨w4.heap.size, p, none⟩ = some (.bool false) := by
          have := hS.cell (met_at xs k p (by rw [HL.out]; exact hpl))
          rw [decide_eq_false (order_fresh hp)] at this; exact this
        have hfr := hS.frozen p
        have hS2 := hS.stored p true
        rw [← met_succ hp] at hS2
        have b4ne : b4 ≠ w4.heap.size := by omega
        have b3ne : b3 ≠ w4.heap.size := by omega
        have c1' : (wr.setCell ⟨w4.heap.size, p, none⟩ (.bool true)).cell? ⟨b3, o3 + k, none⟩ = some (.int .i64 (p : Int)) := by
          rw [World.cell?_setCell_other _ _ _ _ (fun e => by have := congrArg Addr.block e; simp at this; omega)]; exact c1
        have hc4' : ∀ j x, (ints (clustersL xs))[j]? = some x → (wr.setCell ⟨w4.heap.size, p, none⟩ (.bool true)).cell? ⟨b4, o4' + j, none⟩ = some (.int .i64 x) := by
          intro j x hx
          rw [World.cell?_setCell_other _ _ _ _ (fun e => by have := congrArg Addr.block e; simp at this; omega)]; exact hc4 j x hx
        have HC4 := Lib.hid hc4'
        have HS2 := Lib.hid hS2; have HP := Lib.hid hp
        have hm4 : 0 < m4 := HC0.out.2 (by omega)
        clear hc3 hc4 hc4' hS2 hS hp b4ne b3ne
        have p0 : (0 : Int) ≤ (p : Int) := by omega
        have pn : (p : Int) < (m3 : Int) := by omega
        go_wp2
        go_loopw [9] (fun q wq => ∃ (j a d : Nat), j < m4 ∧ q = .int .i64 j ∧ (clustersL xs)[j]? = some a ∧ a ≤ p ∧ wq = (wr.setCell ⟨w4.heap.size, p, none⟩ (.bool true)).drewN d) (fun q _ => m4 - (intOf q).toNat)
        case atStart => exact ⟨0, 0, 0, hm4, rfl, clusters_zero (by rw [HL.out]; omega), by omega, rfl⟩
        case round =>
          obtain ⟨j, a, d, hj, rfl, ha, hap, rfl⟩ := hrel
          have HA := Lib.hid ha; clear ha
          by_cases hj1 : j + 1 < m4
          · obtain ⟨b, hb⟩ : ∃ b, (clustersL xs)[j + 1]? = some b := ⟨_, List.getElem?_eq_getElem (by rw [HML.out]; exact hj1)⟩
            have c4 := HC4.out (j + 1) _ (ints_get hb)
            have HBB := Lib.hid hb; clear hb
            have j1 : (j : Int) + 1 < (m4 : Int) := by omega
            have j0 : (0 : Int) ≤ (j : Int) + 1 := by omega
            by_cases hbp : b ≤ p
            · have t1 : decide ((b : Int) ≤ (p : Int)) = true := by simp; omega
              go_wp2
              go_quiet (fail)
              go_wp2
              go_roundw
              case rel => exact ⟨j + 1, b, d + nq, by omega, by go_num, HBB.out, hbp, by simp⟩
              case measure => simp [intOf]; omega
            · have t1 : decide ((b : Int) ≤ (p : Int)) = false := by simp; omega
              have hst := prev_step HPR.out HP.out HA.out hap (fun b' hb' => by rw [HBB.out] at hb'; injection hb'; omega)
              have t2 := hst.1
              have HST := Lib.hid hst.2
              clear hst
              go_wp2
              go_quiet (fail)
              go_wp2
              go_roundw
              case rel => exact ⟨k + 1, j, by omega, by go_num, rfl, HST.out, HS2.out.drewN _, below_drewN (below_set HB.out (Nat.le_refl _) _ _) _⟩
              case measure => simp [intOf]; omega
          · have j1 : decide ((j : Int) + 1 < (m4 : Int)) = false := by simp; omega
            have hst := prev_step HPR.out HP.out HA.out hap (fun b' hb' => by have := (List.getElem?_eq_some_iff.1 hb').1; have := HML.out; omega)
            have t2 := hst.1
            have HST := Lib.hid hst.2
            clear hst
            go_wp2
            go_quiet (fail)
            go_wp2
            go_roundw
            case rel => exact ⟨k + 1, j, by omega, by go_num, rfl, HST.out, HS2.out.drewN _, below_drewN (below_set HB.out (Nat.le_refl _) _ _) _⟩
            case measure => simp [intOf]; omega
      · go_wp2
        obtain ⟨wo, rfl⟩ : ∃ wo : World, wo = wr := ⟨_, rfl⟩
        go_loopw [10] (fun i wx => ∃ (q d : Nat), i = .int .i64 q ∧ 1 ≤ q ∧ (q ≤ m4 ∨ q = 1) ∧ wx = wo.drewN d) (fun i _ => m4 - (intOf i).toNat)
        case atStart => exact ⟨1, 0, rfl, by omega, by omega, rfl⟩
        case round =>
          obtain ⟨q, d, rfl, hq2, hqk, rfl⟩ := hrel
          by_cases hqlt : q < m4
          · obtain ⟨p, rfl⟩ : ∃ p, q = p + 1 := ⟨q - 1, by omega⟩
            obtain ⟨b4, o4', e4, hb4, hc4⟩ := r4.pos (by omega)
            first | subst e4 | (injection e4 with e4; injection e4 with e41 e42; have e41' := e41.symm; have e42' := e42.symm; clear e41 e42; subst e41'; subst e42')
            obtain ⟨x, hx⟩ : ∃ b, (clustersL xs)[p]? = some b := ⟨_, List.getElem?_eq_getElem (by rw [HML.out]; omega)⟩
            obtain ⟨y, hy⟩ : ∃ b, (clustersL xs)[p + 1]? = some b := ⟨_, List.getElem?_eq_getElem (by rw [HML.out]; omega)⟩
            have hxy := clusters_lt hx hy (by omega)
            have hyl := (clusters_idx hy).1
            rw [HL.out] at hyl
            have d1 := hc4 p _ (ints_get hx)
            have d2 := hc4 (p + 1) _ (ints_get hy)
            clear hx hy hc4
            have p0 : (0 : Int) ≤ (p : Int) := by omega
            have pn : (p : Int) < (m4 : Int) := by omega
            have p1n : (p : Int) + 1 < (m4 : Int) := by omega
            have t1 : decide (y ≤ x) = false := by simp; omega
            have t2 : decide (m3 ≤ y) = false := by simp; omega
            go_wp2
            go_quiet (fail)
            go_wp2
            go_roundw
            case rel => exact ⟨p + 2, d + nq, by go_num, by omega, by omega, by simp⟩
            case measure => simp [intOf]; omega
          · go_wp2
            go_ret
            exact ⟨rfl, below_drewN (below_call B4.out HB.out) _⟩


end Go.Proofs.Ytdacfcfgikllpaa
