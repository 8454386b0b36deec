/- Walks: the reference's Ranges. -/
import Derived.Test.YtladdpfngoldcaaW14
import Derived.RegionTactic
namespace Go.Proofs.Ytladdpfngoldcaa
open Go.RowKit
attribute [local go_sem ↓] Go.wp_at_zero Go.wp_at_succ

def rstep (R : List (Int × Int)) (x : Int) : List (Int × Int) := match R.getLast? with
  | some (a, b) => if b + 1 = x then R.dropLast ++ [(a, x)] else R ++ [(x, x)]
  | none => [(x, x)]
theorem rstep_cons {p : Int × Int} {R : List (Int × Int)} (h : R ≠ []) (x : Int) : rstep (p :: R) x = p :: rstep R x := by
  unfold rstep
  obtain ⟨q, hq⟩ : ∃ q, R.getLast? = some q := by
    cases e : R.getLast? with
    | none => exact absurd (List.getLast?_eq_none_iff.1 e) h
    | some q => exact ⟨q, rfl⟩
  have e2 : (p :: R).getLast? = some q := by rw [List.getLast?_cons, hq]; rfl
  rw [e2, hq]
  obtain ⟨a, b⟩ := q
  dsimp only
  split
  · rw [List.dropLast_cons_of_ne_nil h]; rfl
  · rfl
theorem rstep_snoc (R : List (Int × Int)) (a b x : Int) : rstep (R ++ [(a, b)]) x = if b + 1 = x then R ++ [(a, x)] else R ++ [(a, b)] ++ [(x, x)] := by
  unfold rstep
  simp
theorem rgs_snoc (S : List Int) (x : Int) : rgs (S ++ [x]) = rstep (rgs S) x := by
  induction S with
  | nil => rfl
  | cons y t ih =>
    cases t with
    | nil =>
      show rgs [y, x] = rstep [(y, y)] x
      simp only [rgs, rstep]
      by_cases h : y + 1 = x <;> simp [h]
    | cons z t =>
      obtain ⟨b, r, e⟩ := rgs_head z t
      rw [e] at ih
      have hl : rgs (y :: z :: t) = if y + 1 = z then (y, b) :: r else (y, y) :: (z, b) :: r := by
        conv => lhs; unfold rgs
        rw [e]
      have hr : rgs (y :: (z :: t ++ [x])) = match rstep ((z, b) :: r) x with
        | [] => [(y, y)]
        | (a, b') :: r' => if y + 1 = a then (y, b') :: r' else (y, y) :: (a, b') :: r' := by
        conv => lhs; unfold rgs
        rw [ih]
        rfl
      rw [List.cons_append, hr, hl]
      cases r with
      | nil =>
        by_cases h1 : b + 1 = x <;> by_cases h2 : y + 1 = z <;> simp [rstep, h1, h2]
      | cons p r =>
        rw [rstep_cons (p := (z, b)) (R := p :: r) (by simp)]
        dsimp only
        split
        · rw [rstep_cons (p := (y, b)) (R := p :: r) (by simp)]
        · rw [rstep_cons (p := (y, y)) (R := (z, b) :: p :: r) (by simp), rstep_cons (p := (z, b)) (R := p :: r) (by simp)]
theorem rgs_last {S : List Int} {R : List (Int × Int)} {a b : Int} (h : rgs S = R ++ [(a, b)]) : b ∈ S := by
  induction S generalizing R a with
  | nil => simp [rgs] at h
  | cons y t ih =>
    unfold rgs at h
    split at h
    · rename_i e
      cases R with
      | nil => simp at h; simp [h.2]
      | cons p R => simp at h
    · rename_i a' b' r e
      split at h
      · cases R with
        | nil =>
          simp at h
          obtain ⟨⟨_, rfl⟩, rfl⟩ := h
          exact List.mem_cons_of_mem _ (ih (R := []) (a := a') (by rw [e]; rfl))
        | cons p R =>
          simp at h
          obtain ⟨_, h2⟩ := h
          exact List.mem_cons_of_mem _ (ih (R := (a', b') :: R) (a := a) (by rw [e, h2]; rfl))
      · cases R with
        | nil => simp at h
        | cons p R =>
          rw [List.cons_append] at h
          injection h with _ h
          exact List.mem_cons_of_mem _ (ih (R := R) (a := a) (by rw [e, h]))

theorem prs_set (R : List (Int × Int)) (a b x : Int) : (prs (R ++ [(a, b)])).set (R.length * 2 + 1) (.int .i64 x) = prs (R ++ [(a, x)]) := by
  rw [prs_snoc, prs_snoc, List.set_append_right _ _ (by rw [prs_length]; omega), prs_length]
  rw [show R.length * 2 + 1 - R.length * 2 = 1 by omega]; rfl
theorem Ow2.stored {w : World} {base g n c : Nat} {R : List (Int × Int)} {a b : Int} (h : Ow2 w base (some ⟨g, 0, none⟩) n c (R ++ [(a, b)])) (x : Int) : Ow2 (w.setCell ⟨g, R.length * 2 + 1, none⟩ (.int .i64 x)) base (some ⟨g, 0, none⟩) n c (R ++ [(a, x)]) := by
  have h' : w.ownsRow base 30 2 (.slice (some ⟨g, 0, none⟩) n c) n (prs (R ++ [(a, b)])) := h
  have := (World.ownsRow.stored h' (R.length * 2 + 1) (.int .i64 x)).1
  unfold Ow2
  rw [prs_set] at this; exact this
theorem Ow2.frozen {w : World} {base g n c : Nat} {l : List (Int × Int)} (h : Ow2 w base (some ⟨g, 0, none⟩) n c l) (j : Nat) : w.frozen? ⟨g, j, none⟩ = false := by
  have h' : w.ownsRow base 30 2 (.slice (some ⟨g, 0, none⟩) n c) n (prs l) := h
  exact World.ownsRow.frozenAt h' j
theorem Ow2.at {w : World} {base g n c : Nat} {l : List (Int × Int)} (h : Ow2 w base (some ⟨g, 0, none⟩) n c l) {i : Nat} {p : Int × Int} (hp : l[i]? = some p) : w.cell? ⟨g, i * 2, none⟩ = some (.int .i64 p.1) ∧ w.cell? ⟨g, i * 2 + 1, none⟩ = some (.int .i64 p.2) := by
  obtain ⟨b, o, e, _, hc⟩ := h.rd.pos (by have := h.len; have := (List.getElem?_eq_some_iff.1 hp).1; omega)
  injection e with e; injection e with e1 e2; subst e1; subst e2
  have := hc i p hp
  rw [Nat.zero_add] at this; exact this
theorem own2_below {w w1 : World} {base n c : Nat} {A : Option Addr} {l : List (Int × Int)} (hown : Ow2 w base A n c l) (hgr : w.grownBy w1 (A.map (·.block))) (hbase : base ≤ w.heap.size) : Below base w w1 :=
  (Below.refl _ _).grown hgr hbase (fun k hk => (own2_lt hown k hk).1)
/-- 'append(out, [2]int{..})' at a step of a region that draws its order. -/
theorem step_app2 {ops : Array Oper} {o : Oper} {a : Act} {K : Act → World → Prop} {Q : Exit → Act → World → Prop} {E : Prop} (hw : Region.wanted o (yielded ops a.tmps) = true) (s x : Operand)
    (ho : o.op = .call { callee := .builtin .append, args := #[s, x], argTypes := #[26, 26] })
    (w : World) (base : Nat) (A : Option Addr) (n c B : Nat) (xs : List (Int × Int)) (p : Int × Int)
    (hs : a.eval s = .slice A n c) (hx : a.eval x = .slice (some ⟨B, 0, none⟩) 1 1) (hB : w.heap[B]? = some (.cells #[.int .i64 p.1, .int .i64 p.2] 30 (0, 0))) (hown : Ow2 w base A n c xs) (hlen : n ≤ 1000000) (hbase : base ≤ w.heap.size)
    (h : ∀ g c' w', Ow2 w' base (some ⟨g, 0, none⟩) (n + 1) c' (xs ++ [p]) → w.grownBy w' (A.map (·.block)) → Below base w w' → (A.map (·.block) = some g ∨ g = w.heap.size) → K (a.put o.dst (.slice (some ⟨g, 0, none⟩) (n + 1) c')) w') :
    if Region.wanted o (yielded ops a.tmps) = true then Oper.wp Try.prog o a w K Q else E := by
  obtain ⟨i0, hi, hz0, hz1, hz2⟩ := info_parts info30
  obtain ⟨g, cap, w1, hrun, ho1, hg1, hat, hlt⟩ := run_append_lies (P := Try.prog) w 26 o.type base 30 i0 (.agg #[.int .i64 0, .int .i64 0]) 2 16 Try.underlying26 hi hz0 hz1 hz2 rfl (by decide) (.slice A n c) n (prs xs) hown
    ⟨B, 0, none⟩ 1 1 [.int .i64 p.1, .int .i64 p.2] rfl (World.news_of_block hB) (by intro u hu; simp at hu; rcases hu with rfl | rfl <;> rfl) (by omega) (by unfold maxLen; omega) (by omega) hbase w.heap.size rfl
  rw [ownBlock_slice] at hg1 hat
  have ho2 : Ow2 w1 base (some ⟨g, 0, none⟩) (n + 1) cap (xs ++ [p]) := by unfold Ow2; rw [prs_snoc]; exact ho1
  rw [if_pos hw]
  unfold Oper.wp execOp
  simp only [ho, resolve, invoke, builtin, Sem.run_bind, Sem.run_pure, Result.andThen_ok, List.map_toArray, List.map_cons, List.map_nil, hs, hx, hrun]
  exact h g cap w1 ho2 hg1 (own2_below hown hg1 hbase) hat

theorem Ow2.lower {w : World} {base n c : Nat} {A : Option Addr} {l : List (Int × Int)} (h : Ow2 w base A n c l) {base' : Nat} (hb : base' ≤ base) : Ow2 w base' A n c l := by
  refine ⟨h.1, ?_⟩
  rcases h.2 with h2 | ⟨g, cap, cur, e, hg, r⟩
  · exact .inl h2
  · exact .inr ⟨g, cap, cur, e, by omega, r⟩

set_option maxRecDepth 100000 in
set_option maxHeartbeats 2000000 in
theorem rranges_c (A : Option Addr) (n c : Nat) (xs : List Int) (w : World) (hA : Rd w w.heap.size A n xs) (hn : n ≤ 1000) (hin : In64 xs) :
    Calls Try.prog 17 #[.slice A n c] w fun e w' => ∃ A' m c', e = .returned (.slice A' m c') ∧ m ≤ n ∧ Ow2 w' w.heap.size A' m c' (rgs (ofL xs)) ∧ Below w.heap.size w w' := by
  have hin2 := in64_of hin
  have hT := ofL_srt xs
  go_enter Try.func17, Try.ntmps17
  go_wp2_with fail
  refine (rof_c _ _ _ _ _ hA hn).mono ?_
  rintro e w1 ⟨A1, n1, c1, rfl, hn1, ho1, hb1⟩
  have r1 := ho1.rd
  have hl := r1.len
  have bs1 := hb1.size
  clear ho1
  obtain ⟨T, hTe⟩ : ∃ T, T = ofL xs := ⟨_, rfl⟩
  rw [← hTe] at r1 hl hin2 hT
  have HTE := Lib.hid hTe
  clear hTe
  have HL := Lib.hid hl
  have HIN := Lib.hid hin2
  have HT := Lib.hid hT
  clear hl hin2 hT hin hA
  go_wp2_with fail
  go_loopw [4, 5] (fun v i wr => ∃ (k g m c' : Nat), k ≤ n1 ∧ m ≤ k ∧ i = .int .i64 k ∧ v = .slice (some ⟨g, 0, none⟩) m c' ∧ Ow2 wr w1.heap.size (some ⟨g, 0, none⟩) m c' (rgs (T.take k)) ∧ Below w1.heap.size w1 wr) (fun _ i _ => n1 - (intOf i).toNat)
  case atStart => exact ⟨0, w1.heap.size, 0, 0, by omega, by omega, rfl, rfl, own2_empty w1, (Below.refl _ _).alloc (Nat.le_refl _) _⟩
  case round =>
    obtain ⟨k, g, m, c', hk, hm, rfl, rfl, hO, hB⟩ := hrel
    have bsr := hB.size
    by_cases hlt : k < n1
    · have rr := r1.below hB
      obtain ⟨b, o, rfl, hb, hc⟩ := rr.pos (by omega)
      obtain ⟨x, hx⟩ := getD_some T k (by have := HL.out; omega)
      have d1 := hc k x hx
      have hxin := HIN.out x (List.mem_of_getElem? hx)
      have hsn : rgs (T.take (k + 1)) = rstep (rgs (T.take k)) x := by rw [List.take_add_one, hx]; exact rgs_snoc _ _
      have HSN := Lib.hid hsn
      have gl := own2_lt hO g rfl
      have bne : b ≠ g := by omega
      have k0 : (0 : Int) ≤ (k : Int) := by omega
      have kn : (k : Int) < (n1 : Int) := by omega
      have hnew := World.new_ne wr _ d1
      have bwr : b < wr.heap.size := by omega
      have d0 := (hB.cell (p := ⟨b, o + k, none⟩) hb).symm.trans d1
      clear hc rr hsn
      rcases List.eq_nil_or_concat (rgs (T.take k)) with hR | ⟨R, ⟨pa, pb⟩, hR⟩
      · rw [hR] at hO
        obtain rfl : m = 0 := hO.len.symm
        have HR := Lib.hid hR
        clear hR hx
        go_wp2_with fail
        go_quiet (fail)
        go_wp2_with fail
        go_region_held3 (fun w' => w'.cell? ⟨b, o + k, none⟩ = some (.int .i64 x)) (first | go_keep | exact ck6) (first
          | (refine step_app2 (by rfl) (.tmp 54) (.tmp 64) (by rfl) _ w1.heap.size _ _ _ wr.heap.size _ (x, x) (by rfl) (by rfl) (by exact World.alloc_heap_new wr _) (by exact World.ownsRow.alloc hO _) (by omega) (by simp; omega) ?_; intro g6 c6 w6 ho6 hg6 hb6 hat6; have bb6 : Below w1.heap.size w1 w6 := (hB.alloc bsr (.cells #[.int .i64 x, .int .i64 x] 30)).trans ⟨hb6.os, hb6.tape, hb6.output, hb6.size, hb6.block⟩; have ck6 : w6.cell? ⟨b, o + k, none⟩ = some (.int .i64 x) := (bb6.cell (p := ⟨b, o + k, none⟩) hb).trans d0; clear hg6 hb6 hat6))
        go_wp2_with fail
        go_roundw
        case rel => exact ⟨k + 1, g6, 1, c6, by omega, by omega, by go_num, rfl, by rw [HSN.out, HR.out]; exact ho6, bb6⟩
        case measure => simp [intOf]; omega
      · rw [hR] at hO
        obtain ⟨m', rfl⟩ : ∃ m', m = m' + 1 := ⟨R.length, by have := hO.len; simp at this; omega⟩
        obtain rfl : R.length = m' := by have := hO.len; simp at this; omega
        rw [List.concat_eq_append] at hR hO
        have hpb : pb < x := by
          have hmem := rgs_last hR
          obtain ⟨j, hj⟩ := List.getElem?_of_mem hmem
          rw [List.getElem?_take] at hj
          split at hj
          · rename_i hjk; exact srt_at HT.out hjk hj hx
          · cases hj
        have hst : rgs (T.take (k + 1)) = if pb + 1 = x then R ++ [(pa, x)] else R ++ [(pa, pb)] ++ [(x, x)] := by rw [HSN.out, hR]; exact rstep_snoc R pa pb x
        obtain ⟨c2, c3⟩ := hO.at (i := R.length) (p := (pa, pb)) (by simp)
        have hpin := hxin
        have hpl : -9223372036854775808 ≤ pb := (HIN.out pb (List.mem_of_mem_take (rgs_last hR))).1
        have hwr : IntKind.i64.wrap (pb + 1) = pb + 1 := IntWalk.i64_in _ (by omega)
        have t2 : decide (pb < x) = true := by simpa using hpb
        have r0 : (0 : Int) ≤ (R.length : Int) := by omega
        have r1' : (R.length : Int) < (R.length : Int) + 1 := by omega
        generalize hrl : R.length = m' at *
        clear hR hx
        by_cases hj : pb + 1 = x
        · rw [if_pos hj] at hst
          have HST := Lib.hid hst
          have t1 : (pb + 1 == x) = true := by rw [beq_iff_eq]; exact hj
          have f1 := hO.frozen (m' * 2 + 1)
          have hO2 := hO.stored x
          rw [hrl] at hO2
          have HO2 := Lib.hid hO2
          clear hst hj hO2 hrl
          go_wp2_with fail
          go_quiet (fail)
          go_wp2_with fail
          go_region
          all_goals
            go_wp2_with fail
            go_roundw
            case rel => exact ⟨k + 1, g, m' + 1, c', by omega, by omega, by go_num, rfl, by rw [HST.out]; exact HO2.out, (below_drewN hB _).setCell gl.1 _⟩
            case measure => simp [intOf]; omega
        · rw [if_neg hj] at hst
          have HSN2 := Lib.hid hst
          have t1 : (pb + 1 == x) = false := by rw [beq_eq_false_iff_ne]; exact hj
          clear hst hj
          go_wp2_with fail
          go_quiet (fail)
          go_wp2_with fail
          go_region_held3 (fun w' => w'.cell? ⟨b, o + k, none⟩ = some (.int .i64 x)) (first | go_keep | exact ck6) (first
            | (refine step_app2 (by rfl) (.tmp 54) (.tmp 64) (by rfl) _ w1.heap.size _ _ _ wr.heap.size _ (x, x) (by rfl) (by rfl) (by exact World.alloc_heap_new wr _) (by exact World.ownsRow.alloc hO _) (by omega) (by simp; omega) ?_; intro g6 c6 w6 ho6 hg6 hb6 hat6; have bb6 : Below w1.heap.size w1 w6 := (hB.alloc bsr (.cells #[.int .i64 x, .int .i64 x] 30)).trans ⟨hb6.os, hb6.tape, hb6.output, hb6.size, hb6.block⟩; have ck6 : w6.cell? ⟨b, o + k, none⟩ = some (.int .i64 x) := (bb6.cell (p := ⟨b, o + k, none⟩) hb).trans d0; clear hg6 hb6 hat6))
          go_wp2_with fail
          go_roundw
          case rel => exact ⟨k + 1, g6, m' + 2, c6, by omega, by omega, by go_num, rfl, by rw [HSN2.out]; exact ho6, bb6⟩
          case measure => simp [intOf]; omega
    · go_wp2_with fail
      go_ret
      obtain rfl : k = n1 := by omega
      rw [List.take_of_length_le (by have := HL.out; omega)] at hO
      exact ⟨_, _, _, rfl, by omega, by rw [← HTE.out]; exact hO.lower bs1, hb1.trans (hB.mono bs1)⟩

end Go.Proofs.Ytladdpfngoldcaa
