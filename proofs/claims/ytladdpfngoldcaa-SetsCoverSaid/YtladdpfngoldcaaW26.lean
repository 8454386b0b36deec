/- Walks: SetsCover. -/
import Derived.Test.YtladdpfngoldcaaW25
import Derived.Test.YtladdpfngoldcaaLawD
import Derived.Test.YtladdpfngoldcaaW6P
namespace Go.Proofs.Ytladdpfngoldcaa
open Go.RowKit Go.Shelf
attribute [local go_sem] Oper.semAt_some

theorem app1In {F : Fence} {d : Nat} {ops : Array Oper} {rest : List Oper} {o : Oper} {a : Act} {Q : Exit → Act → World → Prop} (hgd : o.guard = none) (s x : Operand)
    (ho : o.op = .call { callee := .builtin .append, args := #[s, x], argTypes := #[22, 22] })
    (w : World) (base : Nat) (A : Option Addr) (n c : Nat) (xs : List Int) (v : Int)
    (hs : a.eval s = .slice A n c) (hx : a.eval x = .slice (some ⟨w.heap.size, 0, none⟩) 1 1) (hown : Ow w base A n c xs) (hlen : n ≤ 1000000) (hbase : base ≤ w.heap.size)
    (h : ∀ g c' w', Ow w' base (some ⟨g, 0, none⟩) (n + 1) c' (xs ++ [v]) → w.grownBy w' (A.map (·.block)) → Below base w w' → (A.map (·.block) = some g ∨ w.heap.size ≤ g) → n + 1 ≤ c' → wpListIn F d Try.prog ops Q rest (a.put o.dst (.slice (some ⟨g, 0, none⟩) (n + 1) c')) w') :
    wpListIn F d Try.prog ops Q (o :: rest) a (w.alloc (.cells #[.int .i64 v] 3)) := by
  obtain ⟨i0, hi, hz0, hz1, hz2⟩ := info_parts Try.info3
  obtain ⟨g, cap, w1, hrun, ho1, hg1, hat, hlt⟩ := run_append_lies (P := Try.prog) (w.alloc (.cells #[.int .i64 v] 3)) 22 o.type base 3 i0 (.int .i64 0) 1 8 Try.underlying22 hi hz0 hz1 hz2 rfl (by decide) (.slice A n c) n (xs.map (Value.int .i64)) (World.ownsRow.alloc hown _)
    ⟨w.heap.size, 0, none⟩ 1 1 [.int .i64 v] rfl (cell_one_new _ _ _) (by intro u hu; simp at hu; subst hu; rfl) (by omega) (by unfold maxLen; omega) (by omega) (by simp; omega) (w.heap.size + 1) (by simp)
  rw [ownBlock_slice] at hg1 hat
  have hgr : w.grownBy w1 (A.map (·.block)) := (World.grownBy_alloc w _ _).trans hg1
  have ho2 : Ow w1 base (some ⟨g, 0, none⟩) (n + 1) cap (xs ++ [v]) := by unfold Ow; rw [List.map_append]; exact ho1
  refine wpListIn_plain hgd fun K hK' => ?_
  unfold Oper.wpIn
  refine ⟨?_, ?_⟩
  · simp [Oper.about, ho, resolve, Target.leads, Sem.run_pure]
  · rw [Oper.semAt_plain F _ _ (by rw [ho]; intro c hc'; cases hc')]
    simp [execOp, ho, resolve, invoke, builtin, hs, hx, hrun, Result.andThen]
    refine hK' _ _ (h g cap w1 ho2 hgr (own_below hown hgr hbase) ?_ ho2.cap)
    rcases hat with hat | hat
    · exact .inl hat
    · exact .inr (by omega)


theorem rf_skip {F : Fence} {n : Nat} {α : Type} {g : Operand} {ps : Array Tmp} {body : Code} {Q : Exit → Act → World → Prop} {a : Act} {w : World}
    (hro : F.round = none) (h1 : 1 ≤ n) {gf : Nat} {lb : Array Value} (hg : a.eval g = .func (.func gf) #[] lb) (hFg : F.fn gf) (eg : ∀ args w, (callFunc gf args).run Try.prog w = .ok (.enter gf args) w)
    {encs : α → Array Value} {Kp : World → World → Prop} {S Sp : List α → Prop} {N : Nat} (hseq : SeqStopsK F (n - 1) Try.prog gf lb encs Kp S Sp N w)
    (hKt : ∀ {A B C : World}, Kp A B → Kp B C → Kp A C) (hKr : ∀ W, Kp W W) (hKb : ∀ (W : World) (l : Nat) (o o' : Obj), w.heap.size ≤ l → W.heap[l]? = some o → o.isCells = false → o.isWalk = false → Kp W (W.putObj l o')) (hps : ∀ x, (encs x).size = ps.size)
    (I : List α → World → Prop) (Ix : Code → List α → World → Prop) (hI : OwnFrom w.heap.size I) (hIx : ∀ c, OwnFrom w.heap.size (Ix c)) (h0 : I [] w)
    (hbody : ∀ (l : Nat) (pre : List α) (x : α) (W : World), I pre W → pre.length < N → body.wpIn (F.inRound l) (n - 1 - 1) Try.prog (ownPostG w.heap.size Kp I Ix (pre ++ [x]) W) { tmps := (ps.zip (encs x)).foldl (fun t (p, v) => t.setIfInBounds p v) a.tmps, defers := [] } W)
    (hdone : ∀ (D : Nat) (xs : List α) (W : World), w.heap.size ≤ D → S xs → I xs W → W.heap[D]? = some (.deferred (some [])) → Q .normal { a with defers := { target := .collected D, args := #[] } :: a.defers } W)
    (hstop : ∀ (D : Nat) (c : Code) (pre : List α) (W : World), w.heap.size ≤ D → Sp pre → Ix c pre W → W.heap[D]? = some (.deferred (some [])) → c.wpIn F n Try.prog Q { a with defers := { target := .collected D, args := #[] } :: a.defers } W) :
    (Code.rangeFunc g ps .skip body).wpIn F n Try.prog Q a w :=
  wpIn_rangeFunc_ownH hro h1 hg hFg eg hseq (fun h k => hKt h k) hKb (Below.refl _ _) hps I Ix hI hIx h0 (fun x a' _ => a' = { tmps := (ps.zip (encs x)).foldl (fun t (p, v) => t.setIfInBounds p v) a.tmps, defers := [] })
    (fun _ _ _ _ _ _ h _ _ => h) (fun _ _ _ _ _ hi hK => wpIn_skip (hK _ _ (KeepsFrom.refl _ _) (hKr _) hi rfl))
    (fun l pre x a' W _ _ hi hx hN => by subst hx; exact hbody l pre x W hi hN) hdone hstop

/-- So far: the count, and nothing else written. -/
def RC (w8 : World) (Bn : Nat) (s : Int) (pre : List (Int × Int)) (W : World) : Prop := Bk W Bn 3 #[.int .i64 (pre.length : Int)] ∧ (pre.length : Int) ≤ s ∧ w8.grownBy W (some Bn)
def RX (w8 : World) (Bn : Nat) (s : Int) (c : Code) (pre : List (Int × Int)) (W : World) : Prop := c = .exit 4 ∧ Bk W Bn 3 #[.int .i64 s] ∧ (pre.length : Int) = s + 1 ∧ w8.grownBy W (some Bn)
theorem grown_own {w8 X Y : World} {Bn : Nat} {row : Option Nat} (h3 : w8.grownBy X (some Bn)) (hg : X.grownBy Y row) (hr : ∀ r, row = some r → w8.heap.size ≤ r) : w8.grownBy Y (some Bn) :=
  ⟨hg.os.trans h3.os, hg.tape.trans h3.tape, hg.output.trans h3.output, Nat.le_trans h3.size hg.size, fun b hb hne => (hg.block b (Nat.lt_of_lt_of_le hb h3.size) (fun e => by have := hr b e.symm; omega)).trans (h3.block b hb hne)⟩
theorem RC.own (w8 : World) (Bn : Nat) (s : Int) : OwnFrom w8.heap.size (RC w8 Bn s) := by
  intro pre X Y row h hg hr
  obtain ⟨h1, h2, h3⟩ := h
  exact ⟨h1.own_ hg hr, h2, grown_own h3 hg (fun r e => (hr r e).1)⟩
theorem RX.own (w8 : World) (Bn : Nat) (s : Int) (c : Code) : OwnFrom w8.heap.size (RX w8 Bn s c) := by
  intro pre X Y row h hg hr
  obtain ⟨h0, h1, h2, h3⟩ := h
  exact ⟨h0, h1.own_ hg hr, h2, grown_own h3 hg (fun r e => (hr r e).1)⟩

theorem nums_length (a : Int) (k : Nat) : (nums a k).length = k := by simp [nums]
theorem cov_take_len (l : List (Int × Int)) (k : Nat) : (cov (l.take k)).length ≤ (cov l).length := by
  have h : cov l = cov (l.take k) ++ cov (l.drop k) := by
    unfold cov; rw [← List.flatMap_append, List.take_append_drop]
  rw [h, List.length_append]; omega
theorem cov_next {l : List (Int × Int)} {k : Nat} {p : Int × Int} (h : l[k]? = some p) : cov (l.take (k + 1)) = cov (l.take k) ++ numsOf p := by
  rw [List.take_add_one, h]; simp [cov]
theorem rgs_mem {T : List Int} {p : Int × Int} (h : p ∈ rgs T) : p.1 ∈ T ∧ p.2 ∈ T := by
  have hle := rgs_le T p h
  have key : ∀ x ∈ numsOf p, x ∈ T := by
    intro x hx
    rw [← rgs_cov T]
    exact List.mem_flatMap.2 ⟨p, h, hx⟩
  refine ⟨key _ ?_, key _ ?_⟩
  · exact List.mem_map.2 ⟨0, List.mem_range.2 (by omega), by simp⟩
  · exact List.mem_map.2 ⟨(p.2 - p.1).toNat, List.mem_range.2 (by omega), by omega⟩

set_option maxRecDepth 100000 in
set_option maxHeartbeats 4000000 in
theorem setsCover_walk (a0 : Option Addr) (len0 cap0 : Nat) (z0 : List Int) (a1 : Int) (w : World) (w0 : IsRow .i64 w a0 len0 cap0 z0) (hw1 : (Lit.int .u8 a1).wf = true) :
    Calls Try.prog 4 #[.slice a0 len0 cap0, .int .u8 a1] w fun e w' => e = .returned (.bool true) ∧ Below w.heap.size w w' := by
  obtain ⟨p0, hlc0, hcm0⟩ := w0.rd
  have hin : In64 ((z0.take len0).take 40) := fun x hx => w0.in64 x (List.mem_of_mem_take (List.mem_of_mem_take hx))
  have HIN := Lib.hid hin
  have hs1 : 0 ≤ a1 ∧ a1 ≤ 255 := by
    simp only [Lit.wf, Bool.and_eq_true, decide_eq_true_eq] at hw1
    exact ⟨hw1.1, hw1.2⟩
  clear w0 hin hw1
  refine (callsIn_wide (n := 5)).1 ?_
  have hFw : ∀ k, Fence.wide.fn k := fun _ => trivial
  refine callsIn_of_wp_marks Try.func4 rfl trivial ?_ rfl
  simp only [Try.ntmps4, List.size_toArray, List.length_cons, List.length_nil, Nat.reduceAdd, Nat.reduceSub, Array.replicate_succ, Array.replicate_zero, List.push_toArray, List.append_toArray, List.nil_append, List.cons_append]
  gi_wp2_with fail
  refine (liftC (lshown_c _)).mono ?_
  rintro e w1 ⟨rfl, b1⟩
  have k1 : Bk w1 w.heap.size 5 #[.int .u8 a1] := (Bk.new w 5 #[.int .u8 a1]).below b1 (by simp)
  have q1 := (p0.lit (.cells #[.int .u8 a1] 5)).call (Nat.le_refl _) b1
  have bb1 : Below w.heap.size w w1 := ((Below.refl _ _).alloc (Nat.le_refl _) (.cells #[.int .u8 a1] 5)).trans (b1.mono (by simp))
  clear b1 p0
  gi_wp2_with fail
  refine (liftC (few_c _ _ _ _ _ q1 hlc0 hcm0)).mono ?_
  rintro e w2 ⟨A2, c2, rfl, ho2, hb2⟩
  have r2 := ho2.rd
  have q2 := q1.call (Nat.le_refl _) hb2
  have bb2 := below_call bb1 hb2
  have n0 : min len0 40 ≤ 40 := by omega
  obtain ⟨X, hX⟩ : ∃ X, X = (z0.take len0).take 40 := ⟨_, rfl⟩
  obtain ⟨nx, hnx⟩ : ∃ nx, nx = min len0 40 := ⟨_, rfl⟩
  have HX := Lib.hid hX; have HNX := Lib.hid hnx
  rw [← hX, ← hnx] at r2
  rw [← hnx] at n0 ⊢
  have k2 := k1.below hb2 k1.lt
  clear bb1 q1 ho2 hb2 hX hnx k1
  gi_wp2_with fail
  refine (liftC (of_c _ _ _ _ _ r2 (by omega))).mono ?_
  rintro e w3 ⟨A3, m3, c3, rfl, hm3, ho3, hb3⟩
  have q3 := q2.call (Nat.le_refl _) hb3
  have bb3 := below_call bb2 hb3
  have r3 := ho3.rd
  have k3 := k2.below hb3 k2.lt
  clear bb2 q2 r2 hb3 ho3 k2
  gi_wp2_with fail
  refine (liftC (few_c _ _ _ _ _ q3 hlc0 hcm0)).mono ?_
  rintro e w4 ⟨A4, c4, rfl, ho4, hb4⟩
  have r4 := ho4.rd
  rw [← HX.out, ← HNX.out] at r4
  rw [← HNX.out]
  have q4 := q3.call (Nat.le_refl _) hb4
  have bb4 := below_call bb3 hb4
  have s4 := r3.call (Nat.le_refl _) hb4
  have k4 := k3.below hb4 k3.lt
  clear bb3 q3 r3 hb4 ho4 k3
  gi_wp2_with fail
  refine (liftC (lranges_c _ _ _ _ _ r4 (by omega) (by rw [HX.out]; exact HIN.out))).mono ?_
  rintro e w5 ⟨A5, m5, c5, rfl, hm5, ho5, hb5⟩
  have q5 := q4.call (Nat.le_refl _) hb5
  have bb5 := below_call bb4 hb5
  have s5 := s4.call (Nat.le_refl _) hb5
  have k5 := k4.below hb5 k4.lt
  have d5 := ho5.rd
  have hT := ofL_srt X
  have hin2 : In64 (ofL X) := in64_of (by rw [HX.out]; exact HIN.out)
  have hTl : (ofL X).length ≤ 40 := by
    have := s4.len
    omega
  obtain ⟨T, hTe⟩ : ∃ T, T = ofL X := ⟨_, rfl⟩
  rw [← hTe] at hT hin2 hTl s5 d5
  have HT := Lib.hid hT; have HIN2 := Lib.hid hin2; have HTE := Lib.hid hTe; have HTL := Lib.hid hTl
  have HDL := Lib.hid d5.len
  clear bb4 q4 s4 k4 r4 hb5 ho5 hT hin2 hTl hTe
  gi_wp2_with fail
  gi_loopw [8, 9] (fun v i wr => ∃ (k g n c : Nat), k ≤ m5 ∧ i = .int .i64 k ∧ v = .slice (some ⟨g, 0, none⟩) n c ∧ Ow wr w5.heap.size (some ⟨g, 0, none⟩) n c (cov ((rgs T).take k)) ∧ Below w5.heap.size w5 wr) (fun _ i _ => m5 - (intOf i).toNat)
  case atStart => exact ⟨0, w5.heap.size, 0, 0, by omega, rfl, rfl, own_empty w5, (Below.refl _ _).alloc (Nat.le_refl _) _⟩
  case round =>
    obtain ⟨k, g, n, c, hk, rfl, rfl, hO, hB⟩ := hrel
    have hn40 : n ≤ 40 := by
      have h1 := cov_take_len (rgs T) k
      rw [rgs_cov, hO.len] at h1
      exact Nat.le_trans h1 HTL.out
    have bsr := hB.size
    by_cases hkm : k < m5
    · obtain ⟨b, o, rfl, hbl, hcells⟩ := d5.pos (by omega)
      obtain ⟨p, hp⟩ : ∃ p, (rgs T)[k]? = some p := ⟨_, List.getElem?_eq_getElem (by rw [HDL.out]; exact hkm)⟩
      obtain ⟨xa, xb⟩ := p
      have HC := Lib.hid (hcells k _ hp)
      have g1 := (hB.cell (p := ⟨b, o + k * 2, none⟩) hbl).trans HC.out.1
      have g2 := (hB.cell (p := ⟨b, o + k * 2 + 1, none⟩) hbl).trans HC.out.2
      simp only at g1 g2
      have hpm := List.mem_of_getElem? hp
      have hle : xa ≤ xb := rgs_le T _ hpm
      have hsh : xb - xa < 40 := by have h1 := rgs_short hpm; have h2 := HTL.out; simp only at h1; omega
      have hia : -9223372036854775808 ≤ xa ∧ xa ≤ 9223372036854775807 := HIN2.out _ (rgs_mem hpm).1
      have hib : -9223372036854775808 ≤ xb ∧ xb ≤ 9223372036854775807 := HIN2.out _ (rgs_mem hpm).2
      have hkz : (0 : Int) ≤ (k : Int) := by omega
      have hkn : (k : Int) < (m5 : Int) := by omega
      have t1 : decide (xb < xa) = false := by simp; omega
      have HP := Lib.hid hp
      have HO := Lib.hid hO; have HBB := Lib.hid hB
      have hu : IntKind.u64.wrap (IntKind.u64.wrap xb - IntKind.u64.wrap xa) = xb - xa := by
        rw [IntKind.wrap_u64, IntKind.wrap_u64, IntKind.wrap_u64]; omega
      have t2 : decide (40 < xb - xa) = false := by simp; omega
      rcases Nat.eq_zero_or_pos k with hk0 | hk0
      · have t3 : decide ((0 : Int) < (k : Int)) = false := by simp; omega
        have t3n : decide (0 < k) = false := by simp; omega
        clear hO hB hp hpm hcells hk0
        gi_wp2_with fail
        gi_quiet (fail)
        gi_wp2_with fail
        gi_loopw [8, 10] (fun v i wv => ∃ (q g' n' c' : Nat), q ≤ (xb - xa + 1).toNat ∧ i = .int .i64 q ∧ v = .slice (some ⟨g', 0, none⟩) n' c' ∧ Ow wv w5.heap.size (some ⟨g', 0, none⟩) n' c' (cov ((rgs T).take k) ++ nums xa q) ∧ Below w5.heap.size w5 wv) (fun _ i _ => (xb - xa + 1).toNat - (intOf i).toNat)
        case atStart => exact ⟨0, g, n, c, by omega, rfl, rfl, by rw [nums_zero, List.append_nil]; exact HO.out.drewN _, below_drewN HBB.out _⟩
        case round =>
          obtain ⟨q, g', n', c', hq, rfl, rfl, hO2, hB2⟩ := hrel
          have hn' : n' ≤ 100 := by
            have h1 := hO2.len
            rw [List.length_append, HO.out.len, nums_length] at h1
            omega
          have v1 := (hB2.cell (p := ⟨b, o + k * 2, none⟩) hbl).trans HC.out.1
          have v2 := (hB2.cell (p := ⟨b, o + k * 2 + 1, none⟩) hbl).trans HC.out.2
          have bs2 := hB2.size
          have x1 : IntKind.i64.wrap (xb - xa) = xb - xa := by rw [IntKind.wrap_i64]; omega
          clear g1 g2 HBB HO
          by_cases hql : q < (xb - xa + 1).toNat
          · have x2 : decide ((q : Int) ≤ xb - xa) = true := by simp; omega
            have x3 : IntKind.i64.wrap (xa + (q : Int)) = xa + (q : Int) := by rw [IntKind.wrap_i64]; omega
            have HQ := Lib.hid hql
            clear hql
            gi_wp2_with fail
            gi_quiet (fail)
            gi_wp2_with (gi_at_builtin; refine app1In rfl (.tmp 102) (.tmp 110) rfl _ w5.heap.size _ _ _ _ _ (by rfl) (by rfl) (hO2.drewN _) (by omega) (by exact bs2) ?_; intro g9 c9 w9 ho9 hg9 hb9 hat9 hc9)
            go_roundw
            case rel => exact ⟨q + 1, g9, n' + 1, c9, by have := HQ.out; omega, by go_num, rfl, by rw [nums_snoc, ← List.append_assoc]; exact ho9, (below_drewN hB2 _).trans hb9⟩
            case measure => have := HQ.out; simp [intOf]; omega
          · have x2 : decide ((q : Int) ≤ xb - xa) = false := by simp; omega
            obtain rfl : q = (xb - xa + 1).toNat := by omega
            clear hql
            gi_wp2_with fail
            gi_quiet (fail)
            gi_wp2_with fail
            go_roundw
            case rel => exact ⟨k + 1, g', n', c', by omega, by go_num, rfl, by rw [cov_next HP.out]; exact hO2.drewN _, below_drewN hB2 _⟩
            case measure => simp [intOf]; omega
      · obtain ⟨j, hj⟩ : ∃ j, k = j + 1 := ⟨k - 1, by omega⟩
        obtain ⟨y, hy⟩ : ∃ y, (rgs T)[j]? = some y := ⟨_, List.getElem?_eq_getElem (by rw [HDL.out]; omega)⟩
        obtain ⟨ya, yb⟩ := y
        have g4 := (hB.cell (p := ⟨b, o + j * 2 + 1, none⟩) hbl).trans (hcells j _ hy).2
        simp only at g4
        have hnx : yb + 1 < xa := rgs_next HT.out hy (by rw [← hj]; exact hp)
        have hyb : -9223372036854775808 ≤ yb ∧ yb ≤ 9223372036854775807 := HIN2.out _ (rgs_mem (List.mem_of_getElem? hy)).2
        have t3 : decide ((0 : Int) < (k : Int)) = true := by simp; omega
        have t3n : decide (0 < k) = true := by simp; omega
        have t4 : decide (xa ≤ yb) = false := by simp; omega
        have t5 : (xa - 1 == yb) = false := by simp; omega
        have t6 : IntKind.i64.wrap (xa - 1) = xa - 1 := by rw [IntKind.wrap_i64]; omega
        have hjz : (0 : Int) ≤ (j : Int) := by omega
        have hjn : (j : Int) < (m5 : Int) := by omega
        have e1 : (k : Int) - 1 = (j : Int) := by omega
        clear hO hB hp hpm hcells hk0 hy hj
        gi_wp2_with fail
        gi_quiet (fail)
        gi_wp2_with fail
        gi_loopw [8, 10] (fun v i wv => ∃ (q g' n' c' : Nat), q ≤ (xb - xa + 1).toNat ∧ i = .int .i64 q ∧ v = .slice (some ⟨g', 0, none⟩) n' c' ∧ Ow wv w5.heap.size (some ⟨g', 0, none⟩) n' c' (cov ((rgs T).take k) ++ nums xa q) ∧ Below w5.heap.size w5 wv) (fun _ i _ => (xb - xa + 1).toNat - (intOf i).toNat)
        case atStart => exact ⟨0, g, n, c, by omega, rfl, rfl, by rw [nums_zero, List.append_nil]; exact HO.out.drewN _, below_drewN HBB.out _⟩
        case round =>
          obtain ⟨q, g', n', c', hq, rfl, rfl, hO2, hB2⟩ := hrel
          have hn' : n' ≤ 100 := by
            have h1 := hO2.len
            rw [List.length_append, HO.out.len, nums_length] at h1
            omega
          have v1 := (hB2.cell (p := ⟨b, o + k * 2, none⟩) hbl).trans HC.out.1
          have v2 := (hB2.cell (p := ⟨b, o + k * 2 + 1, none⟩) hbl).trans HC.out.2
          have bs2 := hB2.size
          have x1 : IntKind.i64.wrap (xb - xa) = xb - xa := by rw [IntKind.wrap_i64]; omega
          clear g1 g2 HBB HO
          by_cases hql : q < (xb - xa + 1).toNat
          · have x2 : decide ((q : Int) ≤ xb - xa) = true := by simp; omega
            have x3 : IntKind.i64.wrap (xa + (q : Int)) = xa + (q : Int) := by rw [IntKind.wrap_i64]; omega
            have HQ := Lib.hid hql
            clear hql
            gi_wp2_with fail
            gi_quiet (fail)
            gi_wp2_with (gi_at_builtin; refine app1In rfl (.tmp 102) (.tmp 110) rfl _ w5.heap.size _ _ _ _ _ (by rfl) (by rfl) (hO2.drewN _) (by omega) (by exact bs2) ?_; intro g9 c9 w9 ho9 hg9 hb9 hat9 hc9)
            go_roundw
            case rel => exact ⟨q + 1, g9, n' + 1, c9, by have := HQ.out; omega, by go_num, rfl, by rw [nums_snoc, ← List.append_assoc]; exact ho9, (below_drewN hB2 _).trans hb9⟩
            case measure => have := HQ.out; simp [intOf]; omega
          · have x2 : decide ((q : Int) ≤ xb - xa) = false := by simp; omega
            obtain rfl : q = (xb - xa + 1).toNat := by omega
            clear hql
            gi_wp2_with fail
            gi_quiet (fail)
            gi_wp2_with fail
            go_roundw
            case rel => exact ⟨k + 1, g', n', c', by omega, by go_num, rfl, by rw [cov_next HP.out]; exact hO2.drewN _, below_drewN hB2 _⟩
            case measure => simp [intOf]; omega
    · obtain rfl : k = m5 := by omega
      rw [List.take_of_length_le (by rw [HDL.out]; exact Nat.le_refl _), rgs_cov] at hO
      have mr := hO.rd
      have q6 := q5.call (Nat.le_refl _) hB
      have s6 := s5.call (Nat.le_refl _) hB
      have k6 := k5.below hB k5.lt
      have bb6 := below_call bb5 hB
      have hBs : w.heap.size < w5.heap.size := k5.lt
      clear hO hB d5 q5 s5 k5 bb5
      gi_wp2_with fail
      have bn : Below wr.heap.size wr (wr.alloc (.cells #[.int .i64 0] 3)) := (Below.refl _ _).alloc (Nat.le_refl _) _
      refine (liftC (few_c _ _ _ _ _ (q6.lit _) hlc0 hcm0)).mono ?_
      rintro e w7 ⟨A7, c7, rfl, ho7, hb7⟩
      have r7 := ho7.rd
      rw [← HX.out, ← HNX.out] at r7
      rw [← HNX.out]
      have bb7 : Below wr.heap.size wr w7 := bn.trans (hb7.mono (by simp))
      have kn7 : Bk w7 wr.heap.size 3 #[.int .i64 0] := (Bk.new wr 3 #[.int .i64 0]).below hb7 (by simp)
      clear bn hb7 ho7
      gi_wp2_with fail
      refine (liftC (ranges_c _ _ _ _ _ r7 (by omega))).mono ?_
      rintro e w8 ⟨Bx, R, nR, cR, rfl, hBx, hnR, kx, hoR, hb8⟩
      have bb8 : Below wr.heap.size wr w8 := bb7.trans (hb8.mono bb7.size)
      have kn8 := kn7.below hb8 kn7.lt
      have bs7 := bb7.size
      have bs8 := hb8.size
      have hBn : wr.heap.size < w7.heap.size := kn7.lt
      have m8 := mr.call (Nat.le_refl _) bb8
      have s8 := s6.call (Nat.le_refl _) bb8
      have k8 := k6.below bb8 k6.lt
      have b8 := below_call bb6 bb8
      rw [← HTE.out] at hoR
      have hRw := hoR.rd
      have hlo : ∀ b o, R = some ⟨b, o, none⟩ → w7.heap.size ≤ b := fun b o e => (hoR.lt b o none e).1
      have hst := ranges1_stopsP 4 R nR cR Bx w7.heap.size w8.heap.size T w8 (by omega) (by omega) (kx.cell 0) kx.lt hRw (Nat.le_refl _) hlo HT.out HIN2.out
      have hnc := nil_cmp w8 #[.pointer (some ⟨Bx, 0, none⟩)]
      have hBxl := kx.lt
      have bs6 := bb6.size
      clear r7 bb7 kn7 hb8 q6 k6 m8 s8 b8 hoR kx
      gi_wp2_with fail
      clear hnc
      have hcv : IntKind.i64.wrap a1 = a1 := by rw [IntKind.wrap_i64]; omega
      refine rf_skip rfl (by omega) (gf := 40) (lb := #[.pointer (some ⟨Bx, 0, none⟩)]) rfl trivial (enters_of Try.func40 (by kernel_rfl) rfl)
        hst (fun h k => h.trans k) (Kp.refl _ _ _)
        (fun W l o o' hl ho _ _ => ⟨World.putObj_heap_other (by omega), fun k _ hk => World.putObj_heap_other (by omega)⟩) (fun _ => rfl)
        (RC w8 wr.heap.size a1) (RX w8 wr.heap.size a1) (RC.own _ _ _) (RX.own _ _ _) ⟨kn8, by simp; omega, World.grownBy.refl _ _⟩ ?body ?done ?stop
      case body =>
        rintro l pre x W ⟨h1, h2, h3⟩ hlen
        obtain ⟨xa, xb⟩ := x
        have c1 := h1.cell 0
        have f1 := h1.frozen 0
        have kW := k8.grown h3 (fun e => by injection e with e; omega)
        have c2 := kW.cell 0
        simp only [List.getElem?_toArray, List.getElem?_cons_zero] at c1 c2
        by_cases hs : (pre.length : Int) = a1
        · have t1 : ((pre.length : Int) == a1) = true := by simpa using hs
          rw [hs] at h1
          gi_wp2_with fail
          exact ⟨KeepsFrom.refl _ _, rfl, h1, by simp [hs], h3⟩
        · have t1 : ((pre.length : Int) == a1) = false := by simpa using hs
          have x1 : IntKind.i64.wrap ((pre.length : Int) + 1) = (pre.length : Int) + 1 := by rw [IntKind.wrap_i64]; omega
          gi_wp2_with fail
          refine ⟨(KeepsOthers.setCell _ _ _).from _, ⟨Below.heap_setCell _ _ _ _ (by dsimp only; omega), fun j hj1 hj2 => Below.heap_setCell _ _ _ _ (by dsimp only; omega)⟩, ?_, by simp; omega, grownBy_set h3 _ _⟩
          have h4 := h1.set_ 0 (.int .i64 ((pre.length : Int) + 1))
          have e1 : ((pre ++ [(xa, xb)]).length : Int) = (pre.length : Int) + 1 := by simp
          rw [e1]
          exact h4
      case done =>
        rintro D ys W hD rfl ⟨h1, h2, h3⟩ hK
        rw [HDL.out] at h1 h2
        have hmin : min a1 (k : Int) = (k : Int) := by omega
        have c1 := h1.cell 0
        have kW := k8.grown h3 (fun e => by injection e with e; omega)
        have c2 := kW.cell 0
        simp only [List.getElem?_toArray, List.getElem?_cons_zero] at c1 c2
        have bW : Below wr.heap.size wr W := bb8.grown h3 bb8.size (fun j e => by injection e with e; omega)
        have mW := mr.call (Nat.le_refl _) bW
        have sW := s6.call (Nat.le_refl _) bW
        have bbW := below_call bb6 bW
        have hDl : D < W.heap.size := (Array.getElem?_eq_some_iff.1 hK).1
        gi_wp2_with fail
        refine (liftC (same_b _ _ _ _ _ _ _ _ _ mW sW (by omega) (by omega))).mono ?_
        rintro e W2 ⟨he, hb2⟩
        rw [decide_eq_true (by rfl)] at he
        subst he
        have c1' := (hb2.cell (p := ⟨wr.heap.size, 0, none⟩) h1.lt).trans c1
        have c2' := (hb2.cell (p := ⟨w.heap.size, 0, none⟩) kW.lt).trans c2
        have hK2 := (hb2.block D hDl).trans hK
        have bW2 := below_call bbW hb2
        gi_wp2_with fail
        refine ⟨by simp, .inl ⟨_, _, rfl, run_takeDeferred hK2, ?_⟩⟩
        have hgp := grownBy_putObj' W2 D (.deferred none)
        refine ⟨_, results_tmp rfl _ _ _, rfl, ?_⟩
        exact bW2.grown hgp bW2.size (fun j e => by injection e with e; subst e; omega)
      case stop =>
        rintro D cc pre W hD hSp ⟨rfl, h1, h2, h3⟩ hK
        rw [HDL.out] at hSp
        have hmin : min a1 (k : Int) = a1 := by omega
        have c1 := h1.cell 0
        have kW := k8.grown h3 (fun e => by injection e with e; omega)
        have c2 := kW.cell 0
        simp only [List.getElem?_toArray, List.getElem?_cons_zero] at c1 c2
        have bW : Below wr.heap.size wr W := bb8.grown h3 bb8.size (fun j e => by injection e with e; omega)
        have mW := mr.call (Nat.le_refl _) bW
        have sW := s6.call (Nat.le_refl _) bW
        have bbW := below_call bb6 bW
        have hDl : D < W.heap.size := (Array.getElem?_eq_some_iff.1 hK).1
        gi_wp2_with fail
        refine (liftC (same_b _ _ _ _ _ _ _ _ _ mW sW (by omega) (by omega))).mono ?_
        rintro e W2 ⟨he, hb2⟩
        rw [decide_eq_true (by rfl)] at he
        subst he
        have c1' := (hb2.cell (p := ⟨wr.heap.size, 0, none⟩) h1.lt).trans c1
        have c2' := (hb2.cell (p := ⟨w.heap.size, 0, none⟩) kW.lt).trans c2
        have hK2 := (hb2.block D hDl).trans hK
        have bW2 := below_call bbW hb2
        gi_wp2_with fail
        refine ⟨by simp, .inl ⟨_, _, rfl, run_takeDeferred hK2, ?_⟩⟩
        have hgp := grownBy_putObj' W2 D (.deferred none)
        refine ⟨_, results_tmp rfl _ _ _, rfl, ?_⟩
        exact bW2.grown hgp bW2.size (fun j e => by injection e with e; subst e; omega)

end Go.Proofs.Ytladdpfngoldcaa
