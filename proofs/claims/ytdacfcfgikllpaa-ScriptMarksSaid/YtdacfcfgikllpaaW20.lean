/- Walks: ScriptClasses. -/
import Derived.Test.YtdacfcfgikllpaaW18
import Derived.Test.YtdacfcfgikllpaaLawB
namespace Go.Proofs.Ytdacfcfgikllpaa
open Go.RowKit

theorem and255 (z : Int) : bits .and .i64 z 255 = z % 256 := by
  show IntKind.i64.wrap ((BitVec.ofInt 64 z &&& BitVec.ofInt 64 (255 : Int)).toNat : Int) = _
  have e2 : (BitVec.ofInt 64 (255 : Int)).toNat = 255 := by decide
  rw [BitVec.toNat_and, e2, IntKind.wrap_i64]
  have h : (BitVec.ofInt 64 z).toNat &&& 255 = (BitVec.ofInt 64 z).toNat % 256 := Nat.and_two_pow_sub_one_eq_mod _ 8
  rw [h, BitVec.toNat_ofInt]
  omega
theorem own_lit1 (w : World) (base : Nat) (hb : base ≤ w.heap.size) (r : Int) : Ow (w.alloc (.cells #[.int .i64 r] 3)) base (some ⟨w.heap.size, 0, none⟩) 1 1 [r] :=
  ⟨rfl, .inr ⟨w.heap.size, 1, #[.int .i64 r], rfl, hb, heap_alloc_new w _, Nat.le_refl _, by unfold maxLen; omega, rfl, rfl⟩⟩
theorem Rd.at0 {w : World} {B g n : Nat} {xs : List Int} (h : Rd w B (some ⟨g, 0, none⟩) n xs) : ∀ (i : Nat) (x : Int), xs[i]? = some x → w.cell? ⟨g, i, none⟩ = some (.int .i64 x) := fun i x hx => by
  obtain ⟨b, o, e, _, hc⟩ := h.pos (by have := h.len; have := (List.getElem?_eq_some_iff.1 hx).1; omega)
  injection e with e; injection e with e1 e2; subst e1; subst e2
  have := hc i x hx
  rw [Nat.zero_add] at this; exact this
def mkM (m : Int) : Int := 57856 + m % 256
theorem kind_mkM (m : Int) : kind (mkM m) = 3 := by unfold kind mkM; omega
theorem map_take_snoc {ms : List Int} {k : Nat} {x : Int} (h : ms[k]? = some x) (f : Int → Int) : (ms.take (k + 1)).map f = (ms.take k).map f ++ [f x] := by
  rw [List.take_add_one, h]; simp

/-- The mark at a place, and its class by its last four bits. -/
theorem mk_at {r : Int} {ms : List Int} (hm : ∀ v ∈ ms, kind v = 3) {x : Nat} (h0 : 0 < x) (hx : x < (r :: ms).length) : ∃ v, (r :: ms)[x]? = some v ∧ bits .and .i64 v 15 = cls ((r :: ms).getD x 0) := by
  obtain ⟨j, rfl⟩ : ∃ j, x = j + 1 := ⟨x - 1, by omega⟩
  simp at hx
  have hv : (r :: ms)[j + 1]? = some ms[j] := by simp [hx]
  refine ⟨ms[j], hv, ?_⟩
  rw [getD_of hv]
  have hk := hm _ (List.getElem_mem hx)
  have hr : 57856 ≤ ms[j] ∧ ms[j] ≤ 58111 := by unfold kind at hk; omega
  rw [and15 _ hr.1 hr.2]
  unfold cls; rw [if_pos hr]

/-- The part behind the first loop. -/
theorem classes_nexts {r : Int} {ms : List Int} (hm : ∀ v ∈ ms, kind v = 3) (h3 : kind r ≠ 3) {q : Nat} (hq : 1 ≤ q) (hql : q + 1 < (r :: ms).length) :
    ∃ (x y : Nat) (vx vy a b : Int), (ints (orderL (r :: ms)))[q]? = some (x : Int) ∧ (ints (orderL (r :: ms)))[q + 1]? = some (y : Int) ∧ (r :: ms)[x]? = some vx ∧ (r :: ms)[y]? = some vy ∧ bits .and .i64 vx 15 = a ∧ bits .and .i64 vy 15 = b ∧
      1 ≤ x ∧ x < (r :: ms).length ∧ 1 ≤ y ∧ y < (r :: ms).length ∧ (a < b ∨ (a = b ∧ x < y)) := by
  have hl := order_length (r :: ms)
  obtain ⟨x, hx⟩ : ∃ x, (orderL (r :: ms))[q]? = some x := ⟨_, List.getElem?_eq_getElem (by omega)⟩
  obtain ⟨y, hy⟩ : ∃ y, (orderL (r :: ms))[q + 1]? = some y := ⟨_, List.getElem?_eq_getElem (by omega)⟩
  obtain ⟨x1, x2, y1, y2, h⟩ := mk_next hm h3 (by omega) hx hy
  obtain ⟨vx, e1, e2⟩ := mk_at hm x1 x2
  obtain ⟨vy, e3, e4⟩ := mk_at hm y1 y2
  refine ⟨x, y, vx, vy, _, _, ?_, ?_, e1, e3, e2, e4, x1, x2, y1, y2, h⟩
  · unfold ints; rw [List.getElem?_map, hx]; rfl
  · unfold ints; rw [List.getElem?_map, hy]; rfl

set_option maxRecDepth 100000 in
set_option maxHeartbeats 4000000 in
theorem scriptClasses_walk (a0 : Int) (a1 : Option Addr) (len1 cap1 : Nat) (z1 : List Int) (w : World) (_w0 : (Lit.int .i64 a0).wf = true) (w1 : IsRow .i64 w a1 len1 cap1 z1) :
    Calls Try.prog 8 #[.int .i64 a0, .slice a1 len1 cap1] w fun e w' => e = .returned (.bool true) ∧ Below w.heap.size w w' := by
  obtain ⟨r0, hlc, hcm⟩ := w1.rd
  generalize z1.take len1 = ms at *
  clear w1
  have HL := Lib.hid r0.len
  by_cases h3 : kind a0 = 3
  · have H3 := Lib.hid h3
    go_enter Try.func8, Try.ntmps8
    go_wp2_with fail
    refine (lshown_c _).mono ?_
    rintro e w2 ⟨rfl, b2⟩
    have r2 := r0.call (Nat.le_refl _) b2
    clear r0
    go_wp2_with (go_at_call 12; refine (kind_c _ _).mono ?_; rintro e w' ⟨rfl, rfl⟩)
    clear h3
    have bs2 := b2.size
    go_loopw [6, 7] (fun v i wr => ∃ (k g c : Nat), k ≤ len1 ∧ k ≤ 30 ∧ i = .int .i64 k ∧ v = .slice (some ⟨g, 0, none⟩) (k + 1) c ∧ Ow wr w2.heap.size (some ⟨g, 0, none⟩) (k + 1) c (65 :: (ms.take k).map mkM) ∧ Below w2.heap.size w2 wr) (fun _ i _ => 30 - (intOf i).toNat)
    case atStart => exact ⟨0, w2.heap.size, 1, by omega, by omega, rfl, rfl, own_lit1 w2 _ (Nat.le_refl _) _, (Below.refl _ _).alloc (Nat.le_refl _) _⟩
    case round =>
      obtain ⟨k, g, c, hk, hk2, rfl, rfl, hO, hB⟩ := hrel
      have r3 := r2.call (Nat.le_refl _) hB
      have bs3 := hB.size
      have b3 := below_call b2 hB
      by_cases hlt : k < len1 ∧ k < 30
      · obtain ⟨hl1, hl2⟩ := hlt
        obtain ⟨bm, om, rfl, _, hcm2⟩ := r3.pos (by omega)
        obtain ⟨x, hx⟩ := getD_some ms k (by have := HL.out; omega)
        have c1 := hcm2 k x hx
        have hsn := map_take_snoc hx mkM
        have HSN := Lib.hid hsn
        obtain ⟨y, hy⟩ : ∃ y, y = x % 256 := ⟨_, rfl⟩
        have ha := and255 x
        rw [← hy] at ha
        have hy1 : 0 ≤ y := by omega
        have hy2 : y ≤ 255 := by omega
        have HY := Lib.hid hy
        have hgO := hO.lt g 0 none rfl
        clear hx hcm2 hsn hy
        go_wp2_with (at_builtin; refine app1 rfl _ _ rfl wr w2.heap.size _ _ _ _ _ (by rfl) (by rfl) hO (by omega) (by omega) ?_; intro g2 c2 w3 ho3 hg3 hb3 hat3 hcap3)
        go_roundw
        case rel =>
          refine ⟨k + 1, g2, c2, by omega, by omega, by go_num, rfl, ?_, hB.trans hb3⟩
          · have e : 65 :: (ms.take (k + 1)).map mkM = (65 :: (ms.take k).map mkM) ++ [57856 + y] := by rw [HSN.out, HY.out]; simp [mkM]
            rw [e]; exact ho3
        case measure => simp [intOf]; omega
      · have hm : ∀ v ∈ (ms.take k).map mkM, kind v = 3 := by
          intro v hv
          obtain ⟨u, _, rfl⟩ := List.mem_map.1 hv
          exact kind_mkM u
        have hnl : (65 :: (ms.take k).map mkM).length = k + 1 := hO.len
        generalize (ms.take k).map mkM = xs at *
        have HM := Lib.hid hm; have HNL := Lib.hid hnl
        have rl := hO.rd
        clear hm hnl hO r3 r2
        have tl : decide ((k : Int) < (len1 : Int)) = decide (k < len1) := by simp
        have hcase : ¬ k < len1 ∨ ¬ k < 30 := by omega
        clear hlt
        have step : ∀ (K : Act → World → Prop), True := fun _ => trivial
        clear step
        rcases Nat.lt_or_ge k len1 with hkl | hkl
        all_goals
          go_wp2_with fail
          refine (order_c _ _ _ _ _ rl (by omega)).mono ?_
          rintro e w4 ⟨A4, m4, c4, rfl, _, ho4, hb4⟩
          have e4 : m4 = k + 1 := by have := ho4.len; unfold ints at this; rw [List.length_map, order_length, HNL.out] at this; omega
          subst e4
          have b4 := below_call b3 hb4
          have rl4 := rl.call (Nat.le_refl _) hb4
          have ro4 := ho4.rd
          have hf0 := mk_first HM.out (show kind 65 ≠ 3 by decide)
          have hf1 : (ints (orderL (65 :: xs)))[0]? = some ((0 : Nat) : Int) := by unfold ints; rw [List.getElem?_map, hf0]; rfl
          obtain ⟨bo, oo, rfl, _, hco⟩ := ro4.pos (by omega)
          have cz := hco 0 _ hf1
          rw [Nat.add_zero] at cz
          have HCO := Lib.hid hco
          have RL4 := Lib.hid rl4; have B4 := Lib.hid b4
          clear rl hb4 ho4 b3 hB hf0 hf1 hco rl4 b4 ro4
          have h0k : 0 < k + 1 := by omega
          have czz : w4.cell? ⟨bo, oo, none⟩ = some (.int .i64 0) := cz
          clear cz
          go_wp2
          go_loopw [9] (fun i wx => ∃ (q d : Nat), i = .int .i64 q ∧ 2 ≤ q ∧ (q ≤ k + 1 ∨ q = 2) ∧ wx = w4.drewN d) (fun i _ => k + 1 - (intOf i).toNat)
          case atStart => exact ⟨2, 0, rfl, by omega, by omega, rfl⟩
          case round =>
            obtain ⟨q, d, rfl, hq2, hqk, rfl⟩ := hrel
            by_cases hqlt : q < k + 1
            · obtain ⟨p, rfl⟩ : ∃ p, q = p + 1 := ⟨q - 1, by omega⟩
              obtain ⟨x, y, vx, vy, a, b, ex, ey, evx, evy, ha, hb, hx1, hx2, hy1, hy2, hab⟩ := classes_nexts HM.out (show kind 65 ≠ 3 by decide) (q := p) (by omega) (by rw [HNL.out]; omega)
              rw [HNL.out] at hx2 hy2
              have hcl := RL4.out.at0
              have d1 := HCO.out p _ ex
              have d2 := HCO.out (p + 1) _ ey
              have d3 := hcl x _ evx
              have d4 := hcl y _ evy
              clear ex ey evx evy hcl
              have p0 : (0 : Int) ≤ (p : Int) := by omega
              have pn : (p : Int) < ((k + 1 : Nat) : Int) := by omega
              have p1n : (p : Int) + 1 < (k : Int) + 1 := by omega
              have pwr : IntKind.i64.wrap ((p : Int) + 1 - 1) = (p : Int) := by rw [IntWalk.i64_in _ (by omega)]; omega
              have PWR := Lib.hid pwr; clear pwr
              rcases hab with hab | ⟨rfl, hab⟩
              · have tab : (a == b) = false := by rw [beq_eq_false_iff_ne]; omega
                have tgt : decide (b < a) = false := by simp; omega
                go_wp2
                go_quiet (fail)
                go_wp2
                go_roundw
                case rel => exact ⟨p + 2, d + nq, by go_num, by omega, by omega, by simp⟩
                case measure => simp [intOf]; omega
              · go_wp2
                go_quiet (fail)
                go_wp2
                go_roundw
                case rel => exact ⟨p + 2, d + nq, by go_num, by omega, by omega, by simp⟩
                case measure => simp [intOf]; omega
            · go_wp2_with fail
              refine (clusters_c _ _ _ _ _ (RL4.out.dN d) (by omega)).mono ?_
              rintro e w5 ⟨A5, m5, c5, rfl, _, ho5, hb5⟩
              rw [mk_clusters HM.out] at ho5
              obtain rfl : m5 = 1 := ho5.len.symm
              have b5 := below_call (below_drewN B4.out d) hb5
              have r5 := ho5.rd
              clear ho5 hb5
              go_wp2_with fail
              refine (same_b _ _ 1 1 _ _ (ints [0]) [0] _ (r5.lit _) (rd_lit _ _ _ _ rfl (by rfl)) (by omega) (by omega)).mono ?_
              rintro e w6 ⟨rfl, hb6⟩
              have b6 := below_call (below_lit _ _ b5 _) hb6
              go_wp2
              go_ret
              exact ⟨by simp [ints], b6⟩
  · have H3 := Lib.hid h3
    have t3 : (kind a0 == 3) = false := by rw [beq_eq_false_iff_ne]; exact h3
    go_enter Try.func8, Try.ntmps8
    go_wp2_with fail
    refine (lshown_c _).mono ?_
    rintro e w2 ⟨rfl, b2⟩
    have r2 := r0.call (Nat.le_refl _) b2
    clear r0
    go_wp2_with (go_at_call 12; refine (kind_c _ _).mono ?_; rintro e w' ⟨rfl, rfl⟩)
    clear h3
    have bs2 := b2.size
    go_loopw [6, 7] (fun v i wr => ∃ (k g c : Nat), k ≤ len1 ∧ k ≤ 30 ∧ i = .int .i64 k ∧ v = .slice (some ⟨g, 0, none⟩) (k + 1) c ∧ Ow wr w2.heap.size (some ⟨g, 0, none⟩) (k + 1) c (a0 :: (ms.take k).map mkM) ∧ Below w2.heap.size w2 wr) (fun _ i _ => 30 - (intOf i).toNat)
    case atStart => exact ⟨0, w2.heap.size, 1, by omega, by omega, rfl, rfl, own_lit1 w2 _ (Nat.le_refl _) _, (Below.refl _ _).alloc (Nat.le_refl _) _⟩
    case round =>
      obtain ⟨k, g, c, hk, hk2, rfl, rfl, hO, hB⟩ := hrel
      have r3 := r2.call (Nat.le_refl _) hB
      have bs3 := hB.size
      have b3 := below_call b2 hB
      by_cases hlt : k < len1 ∧ k < 30
      · obtain ⟨hl1, hl2⟩ := hlt
        obtain ⟨bm, om, rfl, _, hcm2⟩ := r3.pos (by omega)
        obtain ⟨x, hx⟩ := getD_some ms k (by have := HL.out; omega)
        have c1 := hcm2 k x hx
        have hsn := map_take_snoc hx mkM
        have HSN := Lib.hid hsn
        obtain ⟨y, hy⟩ : ∃ y, y = x % 256 := ⟨_, rfl⟩
        have ha := and255 x
        rw [← hy] at ha
        have hy1 : 0 ≤ y := by omega
        have hy2 : y ≤ 255 := by omega
        have HY := Lib.hid hy
        have hgO := hO.lt g 0 none rfl
        clear hx hcm2 hsn hy
        go_wp2_with (at_builtin; refine app1 rfl _ _ rfl wr w2.heap.size _ _ _ _ _ (by rfl) (by rfl) hO (by omega) (by omega) ?_; intro g2 c2 w3 ho3 hg3 hb3 hat3 hcap3)
        go_roundw
        case rel =>
          refine ⟨k + 1, g2, c2, by omega, by omega, by go_num, rfl, ?_, hB.trans hb3⟩
          · have e : a0 :: (ms.take (k + 1)).map mkM = (a0 :: (ms.take k).map mkM) ++ [57856 + y] := by rw [HSN.out, HY.out]; simp [mkM]
            rw [e]; exact ho3
        case measure => simp [intOf]; omega
      · have hm : ∀ v ∈ (ms.take k).map mkM, kind v = 3 := by
          intro v hv
          obtain ⟨u, _, rfl⟩ := List.mem_map.1 hv
          exact kind_mkM u
        have hnl : (a0 :: (ms.take k).map mkM).length = k + 1 := hO.len
        generalize (ms.take k).map mkM = xs at *
        have HM := Lib.hid hm; have HNL := Lib.hid hnl
        have rl := hO.rd
        clear hm hnl hO r3 r2
        have tl : decide ((k : Int) < (len1 : Int)) = decide (k < len1) := by simp
        have hcase : ¬ k < len1 ∨ ¬ k < 30 := by omega
        clear hlt
        have step : ∀ (K : Act → World → Prop), True := fun _ => trivial
        clear step
        rcases Nat.lt_or_ge k len1 with hkl | hkl
        all_goals
          go_wp2_with fail
          refine (order_c _ _ _ _ _ rl (by omega)).mono ?_
          rintro e w4 ⟨A4, m4, c4, rfl, _, ho4, hb4⟩
          have e4 : m4 = k + 1 := by have := ho4.len; unfold ints at this; rw [List.length_map, order_length, HNL.out] at this; omega
          subst e4
          have b4 := below_call b3 hb4
          have rl4 := rl.call (Nat.le_refl _) hb4
          have ro4 := ho4.rd
          have hf0 := mk_first HM.out H3.out
          have hf1 : (ints (orderL (a0 :: xs)))[0]? = some ((0 : Nat) : Int) := by unfold ints; rw [List.getElem?_map, hf0]; rfl
          obtain ⟨bo, oo, rfl, _, hco⟩ := ro4.pos (by omega)
          have cz := hco 0 _ hf1
          rw [Nat.add_zero] at cz
          have HCO := Lib.hid hco
          have RL4 := Lib.hid rl4; have B4 := Lib.hid b4
          clear rl hb4 ho4 b3 hB hf0 hf1 hco rl4 b4 ro4
          have h0k : 0 < k + 1 := by omega
          have czz : w4.cell? ⟨bo, oo, none⟩ = some (.int .i64 0) := cz
          clear cz
          go_wp2
          go_loopw [9] (fun i wx => ∃ (q d : Nat), i = .int .i64 q ∧ 2 ≤ q ∧ (q ≤ k + 1 ∨ q = 2) ∧ wx = w4.drewN d) (fun i _ => k + 1 - (intOf i).toNat)
          case atStart => exact ⟨2, 0, rfl, by omega, by omega, rfl⟩
          case round =>
            obtain ⟨q, d, rfl, hq2, hqk, rfl⟩ := hrel
            by_cases hqlt : q < k + 1
            · obtain ⟨p, rfl⟩ : ∃ p, q = p + 1 := ⟨q - 1, by omega⟩
              obtain ⟨x, y, vx, vy, a, b, ex, ey, evx, evy, ha, hb, hx1, hx2, hy1, hy2, hab⟩ := classes_nexts HM.out H3.out (q := p) (by omega) (by rw [HNL.out]; omega)
              rw [HNL.out] at hx2 hy2
              have hcl := RL4.out.at0
              have d1 := HCO.out p _ ex
              have d2 := HCO.out (p + 1) _ ey
              have d3 := hcl x _ evx
              have d4 := hcl y _ evy
              clear ex ey evx evy hcl
              have p0 : (0 : Int) ≤ (p : Int) := by omega
              have pn : (p : Int) < ((k + 1 : Nat) : Int) := by omega
              have p1n : (p : Int) + 1 < (k : Int) + 1 := by omega
              have pwr : IntKind.i64.wrap ((p : Int) + 1 - 1) = (p : Int) := by rw [IntWalk.i64_in _ (by omega)]; omega
              have PWR := Lib.hid pwr; clear pwr
              rcases hab with hab | ⟨rfl, hab⟩
              · have tab : (a == b) = false := by rw [beq_eq_false_iff_ne]; omega
                have tgt : decide (b < a) = false := by simp; omega
                go_wp2
                go_quiet (fail)
                go_wp2
                go_roundw
                case rel => exact ⟨p + 2, d + nq, by go_num, by omega, by omega, by simp⟩
                case measure => simp [intOf]; omega
              · go_wp2
                go_quiet (fail)
                go_wp2
                go_roundw
                case rel => exact ⟨p + 2, d + nq, by go_num, by omega, by omega, by simp⟩
                case measure => simp [intOf]; omega
            · go_wp2_with fail
              refine (clusters_c _ _ _ _ _ (RL4.out.dN d) (by omega)).mono ?_
              rintro e w5 ⟨A5, m5, c5, rfl, _, ho5, hb5⟩
              rw [mk_clusters HM.out] at ho5
              obtain rfl : m5 = 1 := ho5.len.symm
              have b5 := below_call (below_drewN B4.out d) hb5
              have r5 := ho5.rd
              clear ho5 hb5
              go_wp2_with fail
              refine (same_b _ _ 1 1 _ _ (ints [0]) [0] _ (r5.lit _) (rd_lit _ _ _ _ rfl (by rfl)) (by omega) (by omega)).mono ?_
              rintro e w6 ⟨rfl, hb6⟩
              have b6 := below_call (below_lit _ _ b5 _) hb6
              go_wp2
              go_ret
              exact ⟨by simp [ints], b6⟩

end Go.Proofs.Ytdacfcfgikllpaa
