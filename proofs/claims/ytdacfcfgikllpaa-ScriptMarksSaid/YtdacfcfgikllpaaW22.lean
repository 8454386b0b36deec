/- Walks: ScriptVowels. -/
import Derived.Test.YtdacfcfgikllpaaW21
namespace Go.Proofs.Ytdacfcfgikllpaa
open Go.RowKit

/-- 'append(out, v)' in a guarded operation. -/
theorem app1w {ops : Array Oper} {rest : List Oper} {o : Oper} {a : Act} {Q : Exit → Act → World → Prop} (hw : Region.wanted o (yielded ops a.tmps) = true) (s x : Operand)
    (ho : o.op = .call { callee := .builtin .append, args := #[s, x], argTypes := #[25, 25] })
    (w : World) (base : Nat) (A : Option Addr) (n c : Nat) (xs : List Int) (v : Int)
    (hs : a.eval s = .slice A n c) (hx : a.eval x = .slice (some ⟨w.heap.size, 0, none⟩) 1 1) (hown : Ow w base A n c xs) (hlen : n ≤ 1000000) (hbase : base ≤ w.heap.size)
    (h : ∀ g c' w', Ow w' base (some ⟨g, 0, none⟩) (n + 1) c' (xs ++ [v]) → w.grownBy w' (A.map (·.block)) → Below base w w' → (A.map (·.block) = some g ∨ w.heap.size ≤ g) → n + 1 ≤ c' → wpList Try.prog ops Q rest (a.put o.dst (.slice (some ⟨g, 0, none⟩) (n + 1) c')) w') :
    wpList Try.prog ops Q (o :: rest) a (w.alloc (.cells #[.int .i64 v] 3)) := by
  obtain ⟨i0, hi, hz0, hz1, hz2⟩ := info_parts Try.info3
  refine wpList_step fun K hK => ?_
  rw [if_pos hw]
  refine wp_append_lies _ s x 25 ho base 3 i0 (.int .i64 0) 1 8 Try.underlying25 hi hz0 hz1 hz2 rfl (by decide) (.slice A n c) n (xs.map (Value.int .i64)) hs (World.ownsRow.alloc hown _)
    ⟨w.heap.size, 0, none⟩ 1 1 [.int .i64 v] hx rfl (cell_one_new _ _ _) (by intro u hu; simp at hu; subst hu; rfl) (by omega) (by unfold maxLen; omega) (by omega) (by simp; omega) (w.heap.size + 1) (by simp) ?_
  intro g cap w1 ho1 hg1 hat hlt
  rw [ownBlock_slice] at hg1 hat
  have hgr : w.grownBy w1 (A.map (·.block)) := (World.grownBy_alloc w _ _).trans hg1
  have ho2 : Ow w1 base (some ⟨g, 0, none⟩) (n + 1) cap (xs ++ [v]) := by unfold Ow; rw [List.map_append]; exact ho1
  refine hK _ _ (h g cap w1 ho2 hgr (own_below hown hgr hbase) ?_ ho2.cap)
  rcases hat with hat | hat
  · exact .inl hat
  · exact .inr (by omega)

theorem V3.start (w : World) (R : Int) : V3 (((w.alloc (.cells #[.int .i64 R] 3)).alloc (.cells #[] 3)).alloc (.cells #[.int .i64 0] 3)) w.heap.size w.heap.size 1 1 [R] (w.heap.size + 1) 0 0 [] (w.heap.size + 1 + 1) 1 1 [0] := by
  have e1 : w.heap.size + 1 = (w.alloc (.cells #[.int .i64 R] 3)).heap.size := by simp
  have e2 : w.heap.size + 1 + 1 = ((w.alloc (.cells #[.int .i64 R] 3)).alloc (.cells #[] 3)).heap.size := by simp
  refine ⟨((own_lit1 w _ (Nat.le_refl _) R).alloc _).alloc _, ?_, ?_, by omega, by omega, by omega⟩
  · rw [e1]; exact ((own_empty _).lower (by simp)).alloc _
  · rw [e2]; exact own_lit1 _ _ (by simp; omega) 0

theorem V3.call {w w' : World} {base g1 n1 c1 g2 n2 c2 g3 n3 c3 : Nat} {x1 x2 x3 : List Int} (h : V3 w base g1 n1 c1 x1 g2 n2 c2 x2 g3 n3 c3 x3) (k : Below w.heap.size w w') : V3 w' base g1 n1 c1 x1 g2 n2 c2 x2 g3 n3 c3 x3 :=
  ⟨h.o1.call k, h.o2.call k, h.o3.call k, h.d12, h.d13, h.d23⟩

/-- A row that others own is read behind an append as before. -/
theorem Ow.far {w w' : World} {base n c g : Nat} {A : Option Addr} {xs : List Int} (h : Ow w base A n c xs) (hg : w.grownBy w' (some g)) (hlt : g < base) : Ow w' base A n c xs :=
  h.keep fun b e => by
    have := h.lt b 0 none e
    exact hg.block b this.2 (by simp; omega)

set_option maxRecDepth 100000 in
set_option maxHeartbeats 4000000 in
theorem scriptVowels_walk (a0 : Int) (a1 : Option Addr) (len1 cap1 : Nat) (z1 : List Int) (w : World) (_w0 : (Lit.int .i64 a0).wf = true) (w1 : IsRow .i64 w a1 len1 cap1 z1) :
    Calls Try.prog 10 #[.int .i64 a0, .slice a1 len1 cap1] w fun e w' => e = .returned (.bool true) ∧ Below w.heap.size w w' := by
  obtain ⟨r0, hlc, hcm⟩ := w1.rd
  generalize z1.take len1 = ms at *
  clear w1
  have HL := Lib.hid r0.len
  obtain ⟨y, hy⟩ : ∃ y, y = a0 % 256 := ⟨_, rfl⟩
  have ha := and255 a0
  rw [← hy] at ha
  have hy1 : 0 ≤ y := by omega
  have hy2 : y ≤ 255 := by omega
  clear hy
  have hcase : kind a0 = 3 ∨ kind a0 = 5 ∨ (kind a0 ≠ 3 ∧ kind a0 ≠ 5) := by omega
  have hr : ∃ R : Int, R = if kind a0 = 3 ∨ kind a0 = 5 then 58112 + y else a0 := ⟨_, rfl⟩
  obtain ⟨R, hR⟩ := hr
  have HR := Lib.hid hR
  clear hR
  have b3 : True := trivial
  clear b3
  rcases hcase with h3 | h5 | ⟨h3, h5⟩
  · have e : 58112 + y = R := by rw [HR.out, if_pos (.inl h3)]
    have t3 : (kind a0 == 3) = true := by rw [h3]; rfl
    go_enter Try.func10, Try.ntmps10
    go_wp2_with fail
    refine (lshown_c _).mono ?_
    rintro e w2 ⟨rfl, b2⟩
    go_wp2_with (go_at_call 12; refine (kind_c _ _).mono ?_; rintro e w' ⟨rfl, rfl⟩)
    clear HR e h3 t3
    have r2 := r0.call (Nat.le_refl _) b2
    clear r0 ha hy1 hy2
    have bs2 := b2.size
    go_loopw [6, 7, 8, 9] (fun l v f i wr => ∃ (k g1 c1 g2 c2 g3 c3 : Nat), k ≤ len1 ∧ k ≤ 30 ∧ i = .int .i64 k ∧ l = .slice (some ⟨g1, 0, none⟩) (k + 1) c1 ∧ v = .slice (some ⟨g2, 0, none⟩) k c2 ∧ f = .slice (some ⟨g3, 0, none⟩) (k + 1) c3 ∧ V3 wr w2.heap.size g1 (k + 1) c1 (R :: (ms.take k).map mkV) g2 k c2 (ints (List.range' 1 k)) g3 (k + 1) c3 (ints (List.range (k + 1))) ∧ Below w2.heap.size w2 wr) (fun _ _ _ i _ => 30 - (intOf i).toNat)
    case atStart => exact ⟨0, w2.heap.size, 1, w2.heap.size + 1, 0, w2.heap.size + 1 + 1, 1, by omega, by omega, rfl, rfl, rfl, rfl, V3.start w2 R, below_lit _ _ (below_lit _ _ (below_lit _ _ (Below.refl _ _) _) _) _⟩
    case round =>
      obtain ⟨k, g1, c1, g2, c2, g3, c3, hk, hk2, rfl, rfl, rfl, rfl, hV, hB⟩ := hrel
      have r3 := r2.call (Nat.le_refl _) hB
      have bs3 := hB.size
      have b3 := below_call b2 hB
      by_cases hlt : k < len1 ∧ k < 30
      · obtain ⟨hl1, hl2⟩ := hlt
        obtain ⟨bm, om, rfl, _, hcm2⟩ := r3.pos (by omega)
        obtain ⟨x, hx⟩ := getD_some ms k (by have := HL.out; omega)
        have d1 := hcm2 k x hx
        have hsn := map_take_snoc hx mkV
        have HSN := Lib.hid hsn
        obtain ⟨y, hy⟩ : ∃ y, y = x % 256 := ⟨_, rfl⟩
        have ha := and255 x
        rw [← hy] at ha
        have hy1 : 0 ≤ y := by omega
        have hy2 : y ≤ 255 := by omega
        have HY := Lib.hid hy
        clear hx hcm2 hsn hy r3
        go_wp2_with first
          | (at_builtin; refine app1 rfl (.tmp 36) (.tmp 43) rfl wr w2.heap.size _ _ _ _ _ (by rfl) (by rfl) hV.o1 (by omega) (by omega) ?_; intro g4 c4 w4 ho4 hg4 hb4 hat4 hcap4; have bs4 := hb4.size; have hV4 := (hV.app1 ho4 hg4 hat4).rot; clear ho4 hg4 hat4)
          | (at_builtin; refine app1 rfl (.tmp 45) (.tmp 48) rfl w4 w2.heap.size _ _ _ _ _ (by rfl) (by rfl) hV4.o1 (by omega) (by omega) ?_; intro g5 c5 w5 ho5 hg5 hb5 hat5 hcap5; have bs5 := hb5.size; have hV5 := (hV4.app1 ho5 hg5 hat5).rot; clear ho5 hg5 hat5)
          | (at_builtin; refine app1 rfl (.tmp 50) (.tmp 53) rfl w5 w2.heap.size _ _ _ _ _ (by rfl) (by rfl) hV5.o1 (by omega) (by omega) ?_; intro g6 c6 w6 ho6 hg6 hb6 hat6 hcap6; have bs6 := hb6.size; have hV6 := (hV5.app1 ho6 hg6 hat6).rot; clear ho6 hg6 hat6)
        go_roundw
        case rel =>
          refine ⟨k + 1, g4, c4, g5, c5, g6, c6, by omega, by omega, by go_num, rfl, rfl, rfl, ?_, ((hB.trans hb4).trans hb5).trans hb6⟩
          have e : R :: (ms.take (k + 1)).map mkV = (R :: (ms.take k).map mkV) ++ [58368 + y] := by rw [HSN.out, HY.out]; simp [mkV]
          rw [e, ints_range, ints_range0]; exact hV6
        case measure => simp [intOf]; omega
      · have hm : ∀ v ∈ (ms.take k).map mkV, kind v = 5 := by
          intro v hv
          obtain ⟨u, _, rfl⟩ := List.mem_map.1 hv
          exact kind_mkV u
        have hnl : (R :: (ms.take k).map mkV).length = k + 1 := hV.o1.len
        generalize (ms.take k).map mkV = xs at *
        have hxl : xs.length = k := by simpa using hnl
        have HM := Lib.hid hm; have HNL := Lib.hid hnl; have HXL := Lib.hid hxl
        have HV := Lib.hid hV
        have rl := hV.o1.rd
        clear hm hnl hxl r3 r2 hV
        have hcase : ¬ k < len1 ∨ ¬ k < 30 := by omega
        clear hlt
        have h4c : kind R = 4 ∨ kind R ≠ 4 := by omega
        rcases h4c with h4 | h4
        · have h4b : (kind R == 4) = true := by rw [h4]; rfl
          have H4 := Lib.hid h4
          clear h4
          rcases Nat.lt_or_ge k len1 with hkl | hkl
          all_goals
            go_wp2_with (go_at_call 12; refine (kind_c _ _).mono ?_; rintro e w' ⟨rfl, rfl⟩)
            refine (order_c _ _ _ _ _ rl (by omega)).mono ?_
            rintro e w4 ⟨A4, m4, c4, rfl, hm4, ho4, hb4⟩
            rw [vow_order4 HM.out H4.out, HXL.out] at ho4
            have b4 := below_call b3 hb4
            have bs4 := hb4.size
            have hV4 := (HV.out.call hb4).rot
            have hlt2 := HV.out.o2.lt g2 0 none rfl
            go_wp2_with (at_builtin; refine app1w rfl (.tmp 62) (.tmp 63) rfl w4 w2.heap.size _ _ _ _ _ (by rfl) (by rfl) hV4.o1 (by omega) (by omega) ?_; intro g5 c5 w5 ho5 hg5 hb5 hat5 hcap5)
            have bs5 := hb5.size
            have hV5 := (hV4.app1 ho5 hg5 hat5).rot.rot
            have ro5 := (ho4.far (g := g2) hg5 (by omega)).rd
            have b5 := below_call b2 ((hB.trans (hb4.mono bs3)).trans hb5)
            rw [ints_app] at ro5
            refine (same_b _ _ m4 (k + 1) _ _ _ _ _ ro5 ho5.rd (by omega) (by omega)).mono ?_
            rintro e w6 ⟨he, hb6⟩
            rw [decide_eq_true (by rfl)] at he
            subst he
            have b6 := below_call b5 hb6
            have rl6 := (hV5.call hb6).o1.rd
            clear hV5 ro5 b5 hb6 hV4 ho4 hb4 b4 b3 rl hg5 hat5 ho5 hb5
            go_wp2_with fail
            refine (clusters_c _ _ _ _ _ rl6 (by omega)).mono ?_
            rintro e w7 ⟨A7, m7, c7, rfl, hm7, ho7, hb7⟩
            rw [vow_clusters4 HM.out H4.out] at ho7
            obtain rfl : m7 = 1 := ho7.len.symm
            have b7 := below_call b6 hb7
            have r7 := ho7.rd
            clear ho7 hb7 b6 rl6
            go_wp2_with fail
            refine (same_b _ _ 1 1 _ _ (ints [0]) [0] _ (r7.lit _) (rd_lit _ _ _ _ rfl (by rfl)) (by omega) (by omega)).mono ?_
            rintro e w8 ⟨rfl, hb8⟩
            have b8 := below_call (below_lit _ _ b7 _) hb8
            go_wp2
            go_ret
            exact ⟨by simp [ints], b8⟩
        · have h4b : (kind R == 4) = false := by rw [beq_eq_false_iff_ne]; exact h4
          have H4 := Lib.hid h4
          clear h4
          rcases Nat.lt_or_ge k len1 with hkl | hkl
          all_goals
            go_wp2_with (go_at_call 12; refine (kind_c _ _).mono ?_; rintro e w' ⟨rfl, rfl⟩)
            refine (order_c _ _ _ _ _ rl (by omega)).mono ?_
            rintro e w4 ⟨A4, m4, c4, rfl, hm4, ho4, hb4⟩
            rw [vow_order HM.out H4.out, HXL.out] at ho4
            have b4 := below_call b3 hb4
            have bs4 := hb4.size
            have hV4 := HV.out.call hb4
            go_wp2_with fail
            refine (same_b _ _ m4 (k + 1) _ _ _ _ _ ho4.rd hV4.o3.rd (by omega) (by omega)).mono ?_
            rintro e w6 ⟨he, hb6⟩
            rw [decide_eq_true (by rfl)] at he
            subst he
            have b6 := below_call b4 hb6
            have hV6 := hV4.call hb6
            have rl6 := hV6.o1.rd
            have HV6 := Lib.hid hV6
            clear hb6 hV4 ho4 hb4 b4 b3 rl hV6
            go_wp2_with fail
            refine (clusters_c _ _ _ _ _ rl6 (by omega)).mono ?_
            rintro e w7 ⟨A7, m7, c7, rfl, hm7, ho7, hb7⟩
            rw [vow_clusters HM.out H4.out, HXL.out] at ho7
            have b7 := below_call b6 hb7
            have r7 := ho7.rd
            have rf7 := (HV6.out.call hb7).o3.rd
            clear ho7 hb7 b6 rl6
            go_wp2_with fail
            refine (same_b _ _ m7 (k + 1) _ _ _ _ _ r7 rf7 (by omega) (by omega)).mono ?_
            rintro e w8 ⟨he, hb8⟩
            rw [decide_eq_true (by rfl)] at he
            subst he
            have b8 := below_call b7 hb8
            go_wp2
            go_ret
            exact ⟨rfl, b8⟩
  · have e : 58112 + y = R := by rw [HR.out, if_pos (.inr h5)]
    have t3 : (kind a0 == 3) = false := by rw [h5]; rfl
    go_enter Try.func10, Try.ntmps10
    go_wp2_with fail
    refine (lshown_c _).mono ?_
    rintro e w2 ⟨rfl, b2⟩
    go_wp2_with (go_at_call 12; refine (kind_c _ _).mono ?_; rintro e w' ⟨rfl, rfl⟩)
    clear HR e h5 t3
    have r2 := r0.call (Nat.le_refl _) b2
    clear r0 ha hy1 hy2
    have bs2 := b2.size
    go_loopw [6, 7, 8, 9] (fun l v f i wr => ∃ (k g1 c1 g2 c2 g3 c3 : Nat), k ≤ len1 ∧ k ≤ 30 ∧ i = .int .i64 k ∧ l = .slice (some ⟨g1, 0, none⟩) (k + 1) c1 ∧ v = .slice (some ⟨g2, 0, none⟩) k c2 ∧ f = .slice (some ⟨g3, 0, none⟩) (k + 1) c3 ∧ V3 wr w2.heap.size g1 (k + 1) c1 (R :: (ms.take k).map mkV) g2 k c2 (ints (List.range' 1 k)) g3 (k + 1) c3 (ints (List.range (k + 1))) ∧ Below w2.heap.size w2 wr) (fun _ _ _ i _ => 30 - (intOf i).toNat)
    case atStart => exact ⟨0, w2.heap.size, 1, w2.heap.size + 1, 0, w2.heap.size + 1 + 1, 1, by omega, by omega, rfl, rfl, rfl, rfl, V3.start w2 R, below_lit _ _ (below_lit _ _ (below_lit _ _ (Below.refl _ _) _) _) _⟩
    case round =>
      obtain ⟨k, g1, c1, g2, c2, g3, c3, hk, hk2, rfl, rfl, rfl, rfl, hV, hB⟩ := hrel
      have r3 := r2.call (Nat.le_refl _) hB
      have bs3 := hB.size
      have b3 := below_call b2 hB
      by_cases hlt : k < len1 ∧ k < 30
      · obtain ⟨hl1, hl2⟩ := hlt
        obtain ⟨bm, om, rfl, _, hcm2⟩ := r3.pos (by omega)
        obtain ⟨x, hx⟩ := getD_some ms k (by have := HL.out; omega)
        have d1 := hcm2 k x hx
        have hsn := map_take_snoc hx mkV
        have HSN := Lib.hid hsn
        obtain ⟨y, hy⟩ : ∃ y, y = x % 256 := ⟨_, rfl⟩
        have ha := and255 x
        rw [← hy] at ha
        have hy1 : 0 ≤ y := by omega
        have hy2 : y ≤ 255 := by omega
        have HY := Lib.hid hy
        clear hx hcm2 hsn hy r3
        go_wp2_with first
          | (at_builtin; refine app1 rfl (.tmp 36) (.tmp 43) rfl wr w2.heap.size _ _ _ _ _ (by rfl) (by rfl) hV.o1 (by omega) (by omega) ?_; intro g4 c4 w4 ho4 hg4 hb4 hat4 hcap4; have bs4 := hb4.size; have hV4 := (hV.app1 ho4 hg4 hat4).rot; clear ho4 hg4 hat4)
          | (at_builtin; refine app1 rfl (.tmp 45) (.tmp 48) rfl w4 w2.heap.size _ _ _ _ _ (by rfl) (by rfl) hV4.o1 (by omega) (by omega) ?_; intro g5 c5 w5 ho5 hg5 hb5 hat5 hcap5; have bs5 := hb5.size; have hV5 := (hV4.app1 ho5 hg5 hat5).rot; clear ho5 hg5 hat5)
          | (at_builtin; refine app1 rfl (.tmp 50) (.tmp 53) rfl w5 w2.heap.size _ _ _ _ _ (by rfl) (by rfl) hV5.o1 (by omega) (by omega) ?_; intro g6 c6 w6 ho6 hg6 hb6 hat6 hcap6; have bs6 := hb6.size; have hV6 := (hV5.app1 ho6 hg6 hat6).rot; clear ho6 hg6 hat6)
        go_roundw
        case rel =>
          refine ⟨k + 1, g4, c4, g5, c5, g6, c6, by omega, by omega, by go_num, rfl, rfl, rfl, ?_, ((hB.trans hb4).trans hb5).trans hb6⟩
          have e : R :: (ms.take (k + 1)).map mkV = (R :: (ms.take k).map mkV) ++ [58368 + y] := by rw [HSN.out, HY.out]; simp [mkV]
          rw [e, ints_range, ints_range0]; exact hV6
        case measure => simp [intOf]; omega
      · have hm : ∀ v ∈ (ms.take k).map mkV, kind v = 5 := by
          intro v hv
          obtain ⟨u, _, rfl⟩ := List.mem_map.1 hv
          exact kind_mkV u
        have hnl : (R :: (ms.take k).map mkV).length = k + 1 := hV.o1.len
        generalize (ms.take k).map mkV = xs at *
        have hxl : xs.length = k := by simpa using hnl
        have HM := Lib.hid hm; have HNL := Lib.hid hnl; have HXL := Lib.hid hxl
        have HV := Lib.hid hV
        have rl := hV.o1.rd
        clear hm hnl hxl r3 r2 hV
        have hcase : ¬ k < len1 ∨ ¬ k < 30 := by omega
        clear hlt
        have h4c : kind R = 4 ∨ kind R ≠ 4 := by omega
        rcases h4c with h4 | h4
        · have h4b : (kind R == 4) = true := by rw [h4]; rfl
          have H4 := Lib.hid h4
          clear h4
          rcases Nat.lt_or_ge k len1 with hkl | hkl
          all_goals
            go_wp2_with (go_at_call 12; refine (kind_c _ _).mono ?_; rintro e w' ⟨rfl, rfl⟩)
            refine (order_c _ _ _ _ _ rl (by omega)).mono ?_
            rintro e w4 ⟨A4, m4, c4, rfl, hm4, ho4, hb4⟩
            rw [vow_order4 HM.out H4.out, HXL.out] at ho4
            have b4 := below_call b3 hb4
            have bs4 := hb4.size
            have hV4 := (HV.out.call hb4).rot
            have hlt2 := HV.out.o2.lt g2 0 none rfl
            go_wp2_with (at_builtin; refine app1w rfl (.tmp 62) (.tmp 63) rfl w4 w2.heap.size _ _ _ _ _ (by rfl) (by rfl) hV4.o1 (by omega) (by omega) ?_; intro g5 c5 w5 ho5 hg5 hb5 hat5 hcap5)
            have bs5 := hb5.size
            have hV5 := (hV4.app1 ho5 hg5 hat5).rot.rot
            have ro5 := (ho4.far (g := g2) hg5 (by omega)).rd
            have b5 := below_call b2 ((hB.trans (hb4.mono bs3)).trans hb5)
            rw [ints_app] at ro5
            refine (same_b _ _ m4 (k + 1) _ _ _ _ _ ro5 ho5.rd (by omega) (by omega)).mono ?_
            rintro e w6 ⟨he, hb6⟩
            rw [decide_eq_true (by rfl)] at he
            subst he
            have b6 := below_call b5 hb6
            have rl6 := (hV5.call hb6).o1.rd
            clear hV5 ro5 b5 hb6 hV4 ho4 hb4 b4 b3 rl hg5 hat5 ho5 hb5
            go_wp2_with fail
            refine (clusters_c _ _ _ _ _ rl6 (by omega)).mono ?_
            rintro e w7 ⟨A7, m7, c7, rfl, hm7, ho7, hb7⟩
            rw [vow_clusters4 HM.out H4.out] at ho7
            obtain rfl : m7 = 1 := ho7.len.symm
            have b7 := below_call b6 hb7
            have r7 := ho7.rd
            clear ho7 hb7 b6 rl6
            go_wp2_with fail
            refine (same_b _ _ 1 1 _ _ (ints [0]) [0] _ (r7.lit _) (rd_lit _ _ _ _ rfl (by rfl)) (by omega) (by omega)).mono ?_
            rintro e w8 ⟨rfl, hb8⟩
            have b8 := below_call (below_lit _ _ b7 _) hb8
            go_wp2
            go_ret
            exact ⟨by simp [ints], b8⟩
        · have h4b : (kind R == 4) = false := by rw [beq_eq_false_iff_ne]; exact h4
          have H4 := Lib.hid h4
          clear h4
          rcases Nat.lt_or_ge k len1 with hkl | hkl
          all_goals
            go_wp2_with (go_at_call 12; refine (kind_c _ _).mono ?_; rintro e w' ⟨rfl, rfl⟩)
            refine (order_c _ _ _ _ _ rl (by omega)).mono ?_
            rintro e w4 ⟨A4, m4, c4, rfl, hm4, ho4, hb4⟩
            rw [vow_order HM.out H4.out, HXL.out] at ho4
            have b4 := below_call b3 hb4
            have bs4 := hb4.size
            have hV4 := HV.out.call hb4
            go_wp2_with fail
            refine (same_b _ _ m4 (k + 1) _ _ _ _ _ ho4.rd hV4.o3.rd (by omega) (by omega)).mono ?_
            rintro e w6 ⟨he, hb6⟩
            rw [decide_eq_true (by rfl)] at he
            subst he
            have b6 := below_call b4 hb6
            have hV6 := hV4.call hb6
            have rl6 := hV6.o1.rd
            have HV6 := Lib.hid hV6
            clear hb6 hV4 ho4 hb4 b4 b3 rl hV6
            go_wp2_with fail
            refine (clusters_c _ _ _ _ _ rl6 (by omega)).mono ?_
            rintro e w7 ⟨A7, m7, c7, rfl, hm7, ho7, hb7⟩
            rw [vow_clusters HM.out H4.out, HXL.out] at ho7
            have b7 := below_call b6 hb7
            have r7 := ho7.rd
            have rf7 := (HV6.out.call hb7).o3.rd
            clear ho7 hb7 b6 rl6
            go_wp2_with fail
            refine (same_b _ _ m7 (k + 1) _ _ _ _ _ r7 rf7 (by omega) (by omega)).mono ?_
            rintro e w8 ⟨he, hb8⟩
            rw [decide_eq_true (by rfl)] at he
            subst he
            have b8 := below_call b7 hb8
            go_wp2
            go_ret
            exact ⟨rfl, b8⟩
  · have e : R = a0 := by rw [HR.out, if_neg (by omega)]
    subst e
    have t3 : (kind R == 3) = false := by rw [beq_eq_false_iff_ne]; exact h3
    have t5 : (kind R == 5) = false := by rw [beq_eq_false_iff_ne]; exact h5
    go_enter Try.func10, Try.ntmps10
    go_wp2_with fail
    refine (lshown_c _).mono ?_
    rintro e w2 ⟨rfl, b2⟩
    go_wp2_with (go_at_call 12; refine (kind_c _ _).mono ?_; rintro e w' ⟨rfl, rfl⟩)
    clear HR h3 h5 t3 t5
    have r2 := r0.call (Nat.le_refl _) b2
    clear r0 ha hy1 hy2
    have bs2 := b2.size
    go_loopw [6, 7, 8, 9] (fun l v f i wr => ∃ (k g1 c1 g2 c2 g3 c3 : Nat), k ≤ len1 ∧ k ≤ 30 ∧ i = .int .i64 k ∧ l = .slice (some ⟨g1, 0, none⟩) (k + 1) c1 ∧ v = .slice (some ⟨g2, 0, none⟩) k c2 ∧ f = .slice (some ⟨g3, 0, none⟩) (k + 1) c3 ∧ V3 wr w2.heap.size g1 (k + 1) c1 (R :: (ms.take k).map mkV) g2 k c2 (ints (List.range' 1 k)) g3 (k + 1) c3 (ints (List.range (k + 1))) ∧ Below w2.heap.size w2 wr) (fun _ _ _ i _ => 30 - (intOf i).toNat)
    case atStart => exact ⟨0, w2.heap.size, 1, w2.heap.size + 1, 0, w2.heap.size + 1 + 1, 1, by omega, by omega, rfl, rfl, rfl, rfl, V3.start w2 R, below_lit _ _ (below_lit _ _ (below_lit _ _ (Below.refl _ _) _) _) _⟩
    case round =>
      obtain ⟨k, g1, c1, g2, c2, g3, c3, hk, hk2, rfl, rfl, rfl, rfl, hV, hB⟩ := hrel
      have r3 := r2.call (Nat.le_refl _) hB
      have bs3 := hB.size
      have b3 := below_call b2 hB
      by_cases hlt : k < len1 ∧ k < 30
      · obtain ⟨hl1, hl2⟩ := hlt
        obtain ⟨bm, om, rfl, _, hcm2⟩ := r3.pos (by omega)
        obtain ⟨x, hx⟩ := getD_some ms k (by have := HL.out; omega)
        have d1 := hcm2 k x hx
        have hsn := map_take_snoc hx mkV
        have HSN := Lib.hid hsn
        obtain ⟨y, hy⟩ : ∃ y, y = x % 256 := ⟨_, rfl⟩
        have ha := and255 x
        rw [← hy] at ha
        have hy1 : 0 ≤ y := by omega
        have hy2 : y ≤ 255 := by omega
        have HY := Lib.hid hy
        clear hx hcm2 hsn hy r3
        go_wp2_with first
          | (at_builtin; refine app1 rfl (.tmp 36) (.tmp 43) rfl wr w2.heap.size _ _ _ _ _ (by rfl) (by rfl) hV.o1 (by omega) (by omega) ?_; intro g4 c4 w4 ho4 hg4 hb4 hat4 hcap4; have bs4 := hb4.size; have hV4 := (hV.app1 ho4 hg4 hat4).rot; clear ho4 hg4 hat4)
          | (at_builtin; refine app1 rfl (.tmp 45) (.tmp 48) rfl w4 w2.heap.size _ _ _ _ _ (by rfl) (by rfl) hV4.o1 (by omega) (by omega) ?_; intro g5 c5 w5 ho5 hg5 hb5 hat5 hcap5; have bs5 := hb5.size; have hV5 := (hV4.app1 ho5 hg5 hat5).rot; clear ho5 hg5 hat5)
          | (at_builtin; refine app1 rfl (.tmp 50) (.tmp 53) rfl w5 w2.heap.size _ _ _ _ _ (by rfl) (by rfl) hV5.o1 (by omega) (by omega) ?_; intro g6 c6 w6 ho6 hg6 hb6 hat6 hcap6; have bs6 := hb6.size; have hV6 := (hV5.app1 ho6 hg6 hat6).rot; clear ho6 hg6 hat6)
        go_roundw
        case rel =>
          refine ⟨k + 1, g4, c4, g5, c5, g6, c6, by omega, by omega, by go_num, rfl, rfl, rfl, ?_, ((hB.trans hb4).trans hb5).trans hb6⟩
          have e : R :: (ms.take (k + 1)).map mkV = (R :: (ms.take k).map mkV) ++ [58368 + y] := by rw [HSN.out, HY.out]; simp [mkV]
          rw [e, ints_range, ints_range0]; exact hV6
        case measure => simp [intOf]; omega
      · have hm : ∀ v ∈ (ms.take k).map mkV, kind v = 5 := by
          intro v hv
          obtain ⟨u, _, rfl⟩ := List.mem_map.1 hv
          exact kind_mkV u
        have hnl : (R :: (ms.take k).map mkV).length = k + 1 := hV.o1.len
        generalize (ms.take k).map mkV = xs at *
        have hxl : xs.length = k := by simpa using hnl
        have HM := Lib.hid hm; have HNL := Lib.hid hnl; have HXL := Lib.hid hxl
        have HV := Lib.hid hV
        have rl := hV.o1.rd
        clear hm hnl hxl r3 r2 hV
        have hcase : ¬ k < len1 ∨ ¬ k < 30 := by omega
        clear hlt
        have h4c : kind R = 4 ∨ kind R ≠ 4 := by omega
        rcases h4c with h4 | h4
        · have h4b : (kind R == 4) = true := by rw [h4]; rfl
          have H4 := Lib.hid h4
          clear h4
          rcases Nat.lt_or_ge k len1 with hkl | hkl
          all_goals
            go_wp2_with (go_at_call 12; refine (kind_c _ _).mono ?_; rintro e w' ⟨rfl, rfl⟩)
            refine (order_c _ _ _ _ _ rl (by omega)).mono ?_
            rintro e w4 ⟨A4, m4, c4, rfl, hm4, ho4, hb4⟩
            rw [vow_order4 HM.out H4.out, HXL.out] at ho4
            have b4 := below_call b3 hb4
            have bs4 := hb4.size
            have hV4 := (HV.out.call hb4).rot
            have hlt2 := HV.out.o2.lt g2 0 none rfl
            go_wp2_with (at_builtin; refine app1w rfl (.tmp 62) (.tmp 63) rfl w4 w2.heap.size _ _ _ _ _ (by rfl) (by rfl) hV4.o1 (by omega) (by omega) ?_; intro g5 c5 w5 ho5 hg5 hb5 hat5 hcap5)
            have bs5 := hb5.size
            have hV5 := (hV4.app1 ho5 hg5 hat5).rot.rot
            have ro5 := (ho4.far (g := g2) hg5 (by omega)).rd
            have b5 := below_call b2 ((hB.trans (hb4.mono bs3)).trans hb5)
            rw [ints_app] at ro5
            refine (same_b _ _ m4 (k + 1) _ _ _ _ _ ro5 ho5.rd (by omega) (by omega)).mono ?_
            rintro e w6 ⟨he, hb6⟩
            rw [decide_eq_true (by rfl)] at he
            subst he
            have b6 := below_call b5 hb6
            have rl6 := (hV5.call hb6).o1.rd
            clear hV5 ro5 b5 hb6 hV4 ho4 hb4 b4 b3 rl hg5 hat5 ho5 hb5
            go_wp2_with fail
            refine (clusters_c _ _ _ _ _ rl6 (by omega)).mono ?_
            rintro e w7 ⟨A7, m7, c7, rfl, hm7, ho7, hb7⟩
            rw [vow_clusters4 HM.out H4.out] at ho7
            obtain rfl : m7 = 1 := ho7.len.symm
            have b7 := below_call b6 hb7
            have r7 := ho7.rd
            clear ho7 hb7 b6 rl6
            go_wp2_with fail
            refine (same_b _ _ 1 1 _ _ (ints [0]) [0] _ (r7.lit _) (rd_lit _ _ _ _ rfl (by rfl)) (by omega) (by omega)).mono ?_
            rintro e w8 ⟨rfl, hb8⟩
            have b8 := below_call (below_lit _ _ b7 _) hb8
            go_wp2
            go_ret
            exact ⟨by simp [ints], b8⟩
        · have h4b : (kind R == 4) = false := by rw [beq_eq_false_iff_ne]; exact h4
          have H4 := Lib.hid h4
          clear h4
          rcases Nat.lt_or_ge k len1 with hkl | hkl
          all_goals
            go_wp2_with (go_at_call 12; refine (kind_c _ _).mono ?_; rintro e w' ⟨rfl, rfl⟩)
            refine (order_c _ _ _ _ _ rl (by omega)).mono ?_
            rintro e w4 ⟨A4, m4, c4, rfl, hm4, ho4, hb4⟩
            rw [vow_order HM.out H4.out, HXL.out] at ho4
            have b4 := below_call b3 hb4
            have bs4 := hb4.size
            have hV4 := HV.out.call hb4
            go_wp2_with fail
            refine (same_b _ _ m4 (k + 1) _ _ _ _ _ ho4.rd hV4.o3.rd (by omega) (by omega)).mono ?_
            rintro e w6 ⟨he, hb6⟩
            rw [decide_eq_true (by rfl)] at he
            subst he
            have b6 := below_call b4 hb6
            have hV6 := hV4.call hb6
            have rl6 := hV6.o1.rd
            have HV6 := Lib.hid hV6
            clear hb6 hV4 ho4 hb4 b4 b3 rl hV6
            go_wp2_with fail
            refine (clusters_c _ _ _ _ _ rl6 (by omega)).mono ?_
            rintro e w7 ⟨A7, m7, c7, rfl, hm7, ho7, hb7⟩
            rw [vow_clusters HM.out H4.out, HXL.out] at ho7
            have b7 := below_call b6 hb7
            have r7 := ho7.rd
            have rf7 := (HV6.out.call hb7).o3.rd
            clear ho7 hb7 b6 rl6
            go_wp2_with fail
            refine (same_b _ _ m7 (k + 1) _ _ _ _ _ r7 rf7 (by omega) (by omega)).mono ?_
            rintro e w8 ⟨he, hb8⟩
            rw [decide_eq_true (by rfl)] at he
            subst he
            have b8 := below_call b7 hb8
            go_wp2
            go_ret
            exact ⟨rfl, b8⟩

end Go.Proofs.Ytdacfcfgikllpaa
