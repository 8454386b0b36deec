/- Walks: Clusters. -/
import Derived.Test.YtdacfcfgikllpaaW13
namespace Go.Proofs.Ytdacfcfgikllpaa
open Go.RowKit Go.Shelf
attribute [local go_sem] Oper.semAt_some

/-- The state of Clusters' loop when the groups 'pre' have come. -/
def cst (xs : List Int) {n : Nat} (pre : List (Grp n)) : List Nat × Bool := (pre.map (·.1)).foldl (clusStep xs) ([], false)
theorem cst_snoc (xs : List Int) {n : Nat} (pre : List (Grp n)) (x : Grp n) : cst xs (pre ++ [x]) = clusStep xs (cst xs pre) x.1 := by simp [cst]
theorem cst_len (xs : List Int) {n : Nat} (pre : List (Grp n)) : (cst xs pre).1.length ≤ pre.length := by
  suffices h : ∀ k, ∀ l : List (Grp n), l.length = k → (cst xs l).1.length ≤ l.length from h _ pre rfl
  intro k
  induction k with
  | zero => intro l hl; have := List.eq_nil_of_length_eq_zero hl; subst this; simp [cst]
  | succ k ih =>
    intro l hl
    have hne : l ≠ [] := by intro e; subst e; simp at hl
    have e := List.dropLast_concat_getLast hne
    have h1 := ih l.dropLast (by simp [hl])
    rw [← e, cst_snoc]; unfold clusStep; split <;> simp at * <;> omega

theorem groupsFrom_len (xs : List Int) (f a i : Nat) : (groupsFrom xs f a i).length ≤ f + 1 := by
  induction f generalizing a i with
  | zero => unfold groupsFrom; split <;> simp
  | succ f ih =>
    unfold groupsFrom
    split
    · have := ih a (i + 1); omega
    · have := ih i (i + 1); simp; omega
theorem clusFold_len (xs : List Int) (l : List (Nat × Nat)) (st : List Nat × Bool) : (l.foldl (clusStep xs) st).1.length ≤ st.1.length + l.length := by
  induction l generalizing st with
  | nil => simp
  | cons g t ih =>
    have h := ih (clusStep xs st g)
    have h2 : (clusStep xs st g).1.length ≤ st.1.length + 1 := by unfold clusStep; split <;> simp
    simp only [List.foldl_cons, List.length_cons]; omega
theorem clustersL_len (xs : List Int) : (clustersL xs).length ≤ xs.length + 1 := by
  have h1 := clusFold_len xs (groupsL xs) ([], false)
  have h2 := groupsFrom_len xs xs.length 0 0
  unfold clustersL
  unfold groupsL at h1 ⊢
  simp at h1; omega

def CI (xs : List Int) (R : Option Addr) (n c B : Nat) (w : World) (pre : List (Grp n)) (W : World) : Prop :=
  (∃ A m c', Bk W (B + 1) 25 #[.slice A m c'] ∧ Ow W B A m c' (ints (cst xs pre).1)) ∧ Bk W B 25 #[.slice R n c] ∧ Bk W (B + 1 + 1) 4 #[.bool (cst xs pre).2] ∧ Bk W (B + 1 + 1 + 1) 25 #[.slice R n c] ∧ Below B w W

theorem CI.own (xs : List Int) (R : Option Addr) (n c B K : Nat) (w : World) (hK : B + 4 ≤ K) : OwnFrom K (CI xs R n c B w) := by
  intro pre X Y row h hg hr
  obtain ⟨⟨A, m, c', h1, h2⟩, h3, h4, h5, h6⟩ := h
  refine ⟨⟨A, m, c', h1.own_ hg hr, h2.own_ hg hr⟩, h3.own_ hg hr, h4.own_ hg hr, h5.own_ hg hr, ?_⟩
  exact h6.grown hg (by have := h3.lt; omega) (fun k e => by have := (hr k e).1; omega)

set_option maxRecDepth 100000 in
set_option maxHeartbeats 2000000 in
theorem clusters_c (R : Option Addr) (n c : Nat) (xs : List Int) (w : World) (hR : Rd w w.heap.size R n xs) (hn : n ≤ 40) :
    Calls Try.prog 20 #[.slice R n c] w fun e w' => ∃ A m c', e = .returned (.slice A m c') ∧ m ≤ 2000 ∧ Ow w' w.heap.size A m c' (ints (clustersL xs)) ∧ Below w.heap.size w w' := by
  refine (callsIn_wide (n := 5)).1 ?_
  have HL := Lib.hid hR.len
  have hFw : ∀ k, Fence.wide.fn k := fun _ => trivial
  have KK := fun (d : Nat) (q : Int) (w0 : World) => (callsIn_wide (n := d)).2 (kind_c q w0)
  have KC := Lib.hid KK; clear KK
  have GG := fun (w0 : World) => (callsIn_wide (n := 4)).2 (groups_c R n c w0)
  have GC := Lib.hid GG; clear GG
  refine callsIn_of_wp_marks Try.func20 rfl trivial ?_ rfl
  simp only [Try.ntmps20, List.size_toArray, List.length_cons, List.length_nil, Nat.reduceAdd, Nat.reduceSub, Array.replicate_succ, Array.replicate_zero, List.push_toArray, List.append_toArray, List.nil_append, List.cons_append]
  gi_wp2_with (gi_at_call 26; refine (GC.out _).mono ?_; rintro e w' ⟨rfl, rfl⟩)
  obtain ⟨B, hB⟩ : ∃ B, B = w.heap.size := ⟨_, rfl⟩
  obtain ⟨W0, hW0⟩ : ∃ W0, ((((w.alloc (Obj.cells #[Value.slice R n c] 25)).alloc (Obj.cells #[Value.slice none 0 0] 25)).alloc (Obj.cells #[Value.bool false] 4)).alloc (Obj.cells #[Value.slice R n c] 25)) = W0 := ⟨_, rfl⟩
  have k0 : Bk W0 B 25 #[.slice R n c] := by rw [← hW0, hB]; exact (((Bk.new _ _ _).alloc _).alloc _).alloc _
  have k1 : Bk W0 (B + 1) 25 #[.slice none 0 0] := by rw [← hW0, hB]; have h := Bk.new (w.alloc (Obj.cells #[Value.slice R n c] 25)) 25 #[.slice none 0 0]; rw [World.size_alloc] at h; exact (h.alloc _).alloc _
  have k2 : Bk W0 (B + 1 + 1) 4 #[.bool false] := by rw [← hW0, hB]; have h := Bk.new ((w.alloc (Obj.cells #[Value.slice R n c] 25)).alloc (Obj.cells #[Value.slice none 0 0] 25)) 4 #[.bool false]; simp only [World.size_alloc] at h; exact h.alloc _
  have k3 : Bk W0 (B + 1 + 1 + 1) 25 #[.slice R n c] := by rw [← hW0, hB]; have h := Bk.new (((w.alloc (Obj.cells #[Value.slice R n c] 25)).alloc (Obj.cells #[Value.slice none 0 0] 25)).alloc (Obj.cells #[Value.bool false] 4)) 25 #[.slice R n c]; simp only [World.size_alloc] at h; exact h
  have hs0 : W0.heap.size = B + 4 := by rw [← hW0, hB]; simp
  have hb0 : Below B w W0 := by rw [← hW0, hB]; exact ((((Below.refl _ _).alloc (Nat.le_refl _) _).alloc (by simp) _).alloc (by simp; omega) _).alloc (by simp; omega) _
  rw [hW0]
  rw [← hB] at hR ⊢
  clear hW0
  have HB := Lib.hid hB; clear hB
  have hRW : Rd W0 B R n xs := hR.below hb0
  refine wpIn_rangeFunc_ownH rfl (by omega) (gf := 30) (lb := #[.pointer (some ⟨B + 1 + 1 + 1, 0, none⟩)]) rfl trivial (enters_of Try.func30 (by kernel_rfl) rfl)
    (groups1_stops 4 R n c (B + 1 + 1 + 1) B xs W0 (by omega) (by omega) (k3.cell 0) (by omega) hRW (by omega)) (fun h k => h.trans k)
    (fun W l o o' hl ho _ _ => ⟨World.putObj_heap_other (by omega), fun k hk => World.putObj_heap_other (by omega)⟩) (Below.refl _ _) (fun _ => rfl)
    (CI xs R n c B w) (fun _ _ _ => False) (CI.own xs R n c B _ w (by omega)) (fun _ _ _ _ _ h _ _ => h)
    ⟨⟨none, 0, 0, k1, by simpa [cst, ints] using Ow.nil W0 B⟩, k0, by simpa [cst] using k2, k3, hb0⟩
    (fun x a' W => ∃ Bg, B + 3 < Bg ∧ Bk W Bg 39 #[.int .i64 ((x.1.1 : Nat) : Int), .int .i64 ((x.1.2 : Nat) : Int)] ∧ a' = { tmps := #[Value.slice R n c, Value.pointer (some { block := B, off := 0 }), Value.slice none 0 0,
          Value.pointer (some { block := B + 1, off := 0 }), Value.pointer (some { block := B + 1 + 1, off := 0 }), Value.pointer (some ⟨Bg, 0, none⟩), undef, Value.slice R n c,
          Value.func (Fn.func 30) #[] #[Value.pointer (some { block := B + 1 + 1 + 1, off := 0 })], .agg #[.int .i64 ((x.1.1 : Nat) : Int), .int .i64 ((x.1.2 : Nat) : Int)],
          undef, undef, undef, undef, undef, undef, undef, undef, undef, undef, undef, undef, undef, undef, undef, undef, undef, undef, undef], defers := [] }) ?hax ?assign ?body ?done ?stop
  case hax =>
    rintro x a' _ X Y row ⟨Bg, h1, h2, h3⟩ hg hr
    exact ⟨Bg, h1, h2.own_ hg hr, h3⟩
  case stop => rintro D c pre W _ _ h _; exact h.elim
  case assign =>
    rintro l pre x W K hi hK
    obtain ⟨⟨A, m, c', h1, h2⟩, h3, h4, h5, h6⟩ := hi
    have hsz : B + 3 < W.heap.size := by have := h5.lt; omega
    gi_wp2
    refine hK _ _ ((KeepsOthers.alloc _ _).from _) ⟨Below.heap_alloc _ _ _ (by omega), fun k hk => Below.heap_alloc _ _ _ (by omega)⟩ ?_ ⟨W.heap.size, hsz, Bk.new _ _ _, rfl⟩
    exact ⟨⟨A, m, c', h1.alloc _, h2.alloc _⟩, h3.alloc _, h4.alloc _, h5.alloc _, h6.alloc (by omega) _⟩
  case body =>
    rintro l pre x a' W hl _ ⟨⟨A, m, c', h1, h2⟩, h3, h4, h5, h6⟩ ⟨Bg, hBg, kg, rfl⟩ hlen
    have HC := Lib.hid (cst_snoc xs pre x)
    have hml : m ≤ 1000 := by have e := h2.len; have e2 := cst_len xs pre; simp [ints] at e; omega
    obtain ⟨⟨xa, xb⟩, hx1, hx2⟩ := x
    dsimp only at kg hx1 hx2 HC ⊢
    have hRr := hR.below h6
    obtain ⟨rb, ro, rfl, hrb, hrc⟩ := hRr.pos (by omega)
    obtain ⟨q, hq⟩ := getD_some xs xa (by have := HL.out; omega)
    have cq := hrc xa q hq
    have hgq := getD_of hq
    have c0 := h3.cell 0
    have c1 := h1.cell 0
    have f1 := h1.frozen 0
    have c2 := h4.cell 0
    have f2 := h4.frozen 0
    have g0 := kg.cell 0
    simp only [List.getElem?_toArray, List.getElem?_cons_zero] at c0 c1 c2 g0
    have n1 := h1.ne_own (by decide) h2
    have n2 := h4.ne_own (by decide) h2
    have n0 := h3.ne_own (by decide) h2
    have n3 := h5.ne_own (by decide) h2
    have hszW := h5.lt
    have hb1 := kind_bd q
    have hst : cst xs (pre ++ [⟨(xa, xb), hx1, hx2⟩]) = if kind q = 5 ∧ (cst xs pre).2 = true then cst xs pre else ((cst xs pre).1 ++ [xa], decide (kind q = 4)) := by
      rw [HC.out]; unfold clusStep; dsimp only; rw [hgq]
    have HST := Lib.hid hst
    clear hst hgq hq hrc HC
    -- how a round ends that has put the group's place behind the clusters
    have fin : ∀ (g2 c2 : Nat) (w2 : World) (bb : Bool), Ow w2 B (some ⟨g2, 0, none⟩) (m + 1) c2 (ints (cst xs pre).1 ++ [(xa : Int)]) → W.grownBy w2 (A.map (·.block)) → (A.map (·.block) = some g2 ∨ W.heap.size ≤ g2) → bb = decide (kind q = 4) → ¬ (kind q = 5 ∧ (cst xs pre).2 = true) →
        (Bk w2 (B + 1) 25 #[.slice A m c'] ∧ Bk w2 (B + 1 + 1) 4 #[.bool (cst xs pre).2]) ∧
        (∀ W', W' = (w2.setCell ⟨B + 1, 0, none⟩ (.slice (some ⟨g2, 0, none⟩) (m + 1) c2)).setCell ⟨B + 1 + 1, 0, none⟩ (.bool bb) → KeepsFrom W0.heap.size W W' ∧ Kp (B + 1 + 1 + 1) B W W' ∧ CI xs (some ⟨rb, ro, none⟩) n c B w (pre ++ [⟨(xa, xb), hx1, hx2⟩]) W') := by
      intro g2 c2 w2 bb ho2 hg2 hat2 hbb hnc
      have hne : ∀ {k : Nat}, (∀ b, A = some ⟨b, 0, none⟩ → k ≠ b) → some k ≠ A.map (·.block) := by
        intro k hk e
        rcases h2.2 with ⟨e3, _⟩ | ⟨g', cap, cur, e3, _⟩
        · injection e3 with e4; subst e4; cases e
        · injection e3 with e4; subst e4; simp at e; exact hk g' rfl e
      have hA : ∀ r, A.map (·.block) = some r → B ≤ r := fun r e => by
        rcases h2.2 with ⟨e3, _⟩ | ⟨g', cap, cur, e3, hb, _⟩
        · injection e3 with e4; subst e4; cases e
        · injection e3 with e4; subst e4; simp at e; omega
      have q1 := h1.grown hg2 (hne n1)
      have q2 := h4.grown hg2 (hne n2)
      have q0 := h3.grown hg2 (hne n0)
      have q3 := h5.grown hg2 (hne n3)
      refine ⟨⟨q1, q2⟩, ?_⟩
      rintro W' rfl
      have hko : KeepsOthers W w2 := KeepsOthers.of_grownBy hg2 (fun j o e ho => by
        rcases h2.2 with ⟨e3, _⟩ | ⟨g', cap, cur, e3, hb, hh, _⟩
        · injection e3 with e4; subst e4; cases e
        · injection e3 with e4; subst e4; simp at e; subst e; rw [hh] at ho; injection ho with ho; subst ho; rfl)
      have hb2 : Below B W w2 := (Below.refl _ _).grown hg2 (by omega) (fun k e => hA k e)
      have m1 := q1.ne_own (by decide) ho2 g2 rfl
      have m2 := q2.ne_own (by decide) ho2 g2 rfl
      refine ⟨((hko.trans (KeepsOthers.setCell _ _ _)).trans (KeepsOthers.setCell _ _ _)).from _, ⟨?_, fun k hk => ?_⟩, ⟨_, _, _, (q1.set_ 0 _).far (by dsimp only; omega) _, ?_⟩, (q0.far (by dsimp only; omega) _).far (by dsimp only; omega) _, ?_, (q3.far (by dsimp only; omega) _).far (by dsimp only; omega) _, ?_⟩
      · exact (((q3.far (by dsimp only; omega) _).far (by dsimp only; omega) _).trans h5.symm)
      · rw [Below.heap_setCell _ _ _ _ (by simp; omega), Below.heap_setCell _ _ _ _ (by simp; omega)]; exact hb2.block k hk
      · rw [HST.out, if_neg hnc]
        unfold ints; rw [List.map_append]
        exact (ho2.setOther (fun b e => by cases e; simp; omega) _).setOther (fun b e => by cases e; simp; omega) _
      · rw [HST.out, if_neg hnc]
        dsimp only
        rw [← hbb]
        exact (q2.far (by dsimp only; omega) _).set_ 0 _
      · exact ((h6.trans hb2).setCell (by dsimp only; omega) _).setCell (by simp; omega) _
    have FIN := Lib.hid fin; clear fin
    have hxa0 : (0 : Int) ≤ (xa : Int) := by omega
    have hxan : (xa : Int) < (n : Int) := by omega
    cases hsy : (cst xs pre).2
    · rw [hsy] at c2
      have hnc : ¬ (kind q = 5 ∧ (cst xs pre).2 = true) := by rw [hsy]; simp
      have HNC := Lib.hid hnc; have HSY := Lib.hid hsy
      clear hnc hsy
      obtain ⟨BB, hBB⟩ : ∃ BB, BB = decide (kind q = 4) := ⟨_, rfl⟩
      have HBB := Lib.hid hBB
      by_cases h5 : kind q = 5
      · obtain rfl : BB = false := by rw [hBB, h5]; rfl
        clear hBB
        gi_wp2_with (first | (gi_at_call 12; refine (CallsIn.inRound l (KC.out _ _ _)).mono ?_; rintro e w' ⟨rfl, rfl⟩) | (gi_at_builtin; refine app1In rfl _ _ rfl W B _ _ _ _ _ (by rfl) (by rfl) h2 (by omega) (by omega) ?_; intro g2 cc2 w2 ho2 hg2 hb2 hat2 hcap2; obtain ⟨⟨r1, r2⟩, FF⟩ := FIN.out g2 cc2 w2 _ ho2 hg2 hat2 HBB.out HNC.out; have v1 := r1.cell 0; have v2 := r1.frozen 0; have v3 := r2.cell 0; have v4 := r2.frozen 0; simp only [List.getElem?_toArray, List.getElem?_cons_zero] at v1 v3; have FF2 := Lib.hid FF; clear FF r1 r2))
        exact FF2.out _ rfl
      · have t5 : (kind q == 5) = false := by rw [beq_eq_false_iff_ne]; exact h5
        by_cases h4' : kind q = 4
        · obtain rfl : BB = true := by rw [hBB, h4']; rfl
          clear hBB
          gi_wp2_with (first | (gi_at_call 12; refine (CallsIn.inRound l (KC.out _ _ _)).mono ?_; rintro e w' ⟨rfl, rfl⟩) | (gi_at_builtin; refine app1In rfl _ _ rfl W B _ _ _ _ _ (by rfl) (by rfl) h2 (by omega) (by omega) ?_; intro g2 cc2 w2 ho2 hg2 hb2 hat2 hcap2; obtain ⟨⟨r1, r2⟩, FF⟩ := FIN.out g2 cc2 w2 _ ho2 hg2 hat2 HBB.out HNC.out; have v1 := r1.cell 0; have v2 := r1.frozen 0; have v3 := r2.cell 0; have v4 := r2.frozen 0; simp only [List.getElem?_toArray, List.getElem?_cons_zero] at v1 v3; have FF2 := Lib.hid FF; clear FF r1 r2))
          exact FF2.out _ rfl
        · have t4 : (kind q == 4) = false := by rw [beq_eq_false_iff_ne]; exact h4'
          obtain rfl : BB = false := by rw [hBB]; simp [h4']
          clear hBB
          gi_wp2_with (first | (gi_at_call 12; refine (CallsIn.inRound l (KC.out _ _ _)).mono ?_; rintro e w' ⟨rfl, rfl⟩) | (gi_at_builtin; refine app1In rfl _ _ rfl W B _ _ _ _ _ (by rfl) (by rfl) h2 (by omega) (by omega) ?_; intro g2 cc2 w2 ho2 hg2 hb2 hat2 hcap2; obtain ⟨⟨r1, r2⟩, FF⟩ := FIN.out g2 cc2 w2 _ ho2 hg2 hat2 HBB.out HNC.out; have v1 := r1.cell 0; have v2 := r1.frozen 0; have v3 := r2.cell 0; have v4 := r2.frozen 0; simp only [List.getElem?_toArray, List.getElem?_cons_zero] at v1 v3; have FF2 := Lib.hid FF; clear FF r1 r2))
          exact FF2.out _ rfl
    · rw [hsy] at c2
      by_cases h5k : kind q = 5
      · have hst : cst xs (pre ++ [⟨(xa, xb), hx1, hx2⟩]) = cst xs pre := by rw [HST.out, if_pos ⟨h5k, hsy⟩]
        have HST2 := Lib.hid hst; clear hst hsy
        gi_wp2_with (gi_at_call 12; refine (CallsIn.inRound l (KC.out _ _ _)).mono ?_; rintro e w' ⟨rfl, rfl⟩)
        refine ⟨KeepsFrom.refl _ _, Kp.refl _ _ _, ?_⟩
        unfold CI
        rw [HST2.out]
        exact ⟨⟨A, m, c', h1, h2⟩, h3, h4, h5, h6⟩
      · have hnc : ¬ (kind q = 5 ∧ (cst xs pre).2 = true) := by simp [h5k]
        have HNC := Lib.hid hnc
        clear hnc hsy
        obtain ⟨BB, hBB⟩ : ∃ BB, BB = decide (kind q = 4) := ⟨_, rfl⟩
        have HBB := Lib.hid hBB
        have t5 : (kind q == 5) = false := by rw [beq_eq_false_iff_ne]; exact h5k
        by_cases h4' : kind q = 4
        · obtain rfl : BB = true := by rw [hBB, h4']; rfl
          clear hBB
          gi_wp2_with (first | (gi_at_call 12; refine (CallsIn.inRound l (KC.out _ _ _)).mono ?_; rintro e w' ⟨rfl, rfl⟩) | (gi_at_builtin; refine app1In rfl _ _ rfl W B _ _ _ _ _ (by rfl) (by rfl) h2 (by omega) (by omega) ?_; intro g2 cc2 w2 ho2 hg2 hb2 hat2 hcap2; obtain ⟨⟨r1, r2⟩, FF⟩ := FIN.out g2 cc2 w2 _ ho2 hg2 hat2 HBB.out HNC.out; have v1 := r1.cell 0; have v2 := r1.frozen 0; have v3 := r2.cell 0; have v4 := r2.frozen 0; simp only [List.getElem?_toArray, List.getElem?_cons_zero] at v1 v3; have FF2 := Lib.hid FF; clear FF r1 r2))
          exact FF2.out _ rfl
        · have t4 : (kind q == 4) = false := by rw [beq_eq_false_iff_ne]; exact h4'
          obtain rfl : BB = false := by rw [hBB]; simp [h4']
          clear hBB
          gi_wp2_with (first | (gi_at_call 12; refine (CallsIn.inRound l (KC.out _ _ _)).mono ?_; rintro e w' ⟨rfl, rfl⟩) | (gi_at_builtin; refine app1In rfl _ _ rfl W B _ _ _ _ _ (by rfl) (by rfl) h2 (by omega) (by omega) ?_; intro g2 cc2 w2 ho2 hg2 hb2 hat2 hcap2; obtain ⟨⟨r1, r2⟩, FF⟩ := FIN.out g2 cc2 w2 _ ho2 hg2 hat2 HBB.out HNC.out; have v1 := r1.cell 0; have v2 := r1.frozen 0; have v3 := r2.cell 0; have v4 := r2.frozen 0; simp only [List.getElem?_toArray, List.getElem?_cons_zero] at v1 v3; have FF2 := Lib.hid FF; clear FF r1 r2))
          exact FF2.out _ rfl
  case done =>
    rintro D ys W hD hS ⟨⟨A, m, c', h1, h2⟩, h3, h4, h5, h6⟩ hK
    have c1 := h1.cell 0
    simp only [List.getElem?_toArray, List.getElem?_cons_zero] at c1
    gi_wp2
    refine ⟨by simp, .inl ⟨_, _, rfl, run_takeDeferred hK, ?_⟩⟩
    have hgp := grownBy_putObj' W D (.deferred none)
    have hrr : ∀ r, some D = some r → W0.heap.size ≤ r ∧ ∃ o : Obj, W.heap[r]? = some o ∧ o.isCells = false := fun r e => by cases e; exact ⟨hD, _, hK, rfl⟩
    have hcl : (cst xs ys).1 = clustersL xs := by unfold cst clustersL; rw [hS]
    have hlen := h2.len
    rw [hcl] at h2 hlen
    refine ⟨_, results_tmp rfl _ _ _, A, m, c', rfl, ?_, ?_, ?_⟩
    · simp [ints] at hlen
      have := clustersL_len xs
      have := HL.out
      omega
    · rw [← HB.out]; exact h2.own_ hgp hrr
    · rw [← HB.out]; exact h6.grown hgp (by have := h3.lt; omega) (fun k e => by have := (hrr k e).1; omega)

end Go.Proofs.Ytdacfcfgikllpaa
