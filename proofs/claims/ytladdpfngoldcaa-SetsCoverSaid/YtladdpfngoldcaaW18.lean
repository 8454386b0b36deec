/- Walks: rows of rows of the call's own; rows. -/
import Derived.Test.YtladdpfngoldcaaW17
namespace Go.Proofs.Ytladdpfngoldcaa
open Go.RowKit

theorem info22 : (Try.prog.info? 22).map (fun i => (i.zero, i.size, i.bytes)) = some (some (.slice none 0 0), 1, 24) := by kernel_rfl
/-- A row of slices, the call's own. -/
def OwV (w : World) (base : Nat) (A : Option Addr) (n c : Nat) (vs : List Value) : Prop := w.ownsRow base 22 1 (.slice A n c) n vs
theorem Ow.cmax {w : World} {base n c : Nat} {A : Option Addr} {xs : List Int} (ho : Ow w base A n c xs) : c ≤ 9223372036854775807 := by
  rcases ho.2 with ⟨e, h0⟩ | ⟨_, cap, _, e, _, _, _, hm, _⟩
  · injection e with _ _ e3; omega
  · injection e with e1 _ e3; subst e3; unfold maxLen at hm; omega
section
variable {w w' : World} {base n c : Nat} {A : Option Addr} {vs : List Value}
theorem OwV.len (h : OwV w base A n c vs) : vs.length = n := by have := h.1; simpa using this
theorem OwV.cmax (ho : OwV w base A n c vs) : c ≤ 9223372036854775807 := by
  rcases ho.2 with ⟨e, h0⟩ | ⟨_, cap, _, e, _, _, _, hm, _⟩
  · injection e with _ _ e3; omega
  · injection e with e1 _ e3; subst e3; unfold maxLen at hm; omega
theorem OwV.cap (h : OwV w base A n c vs) : n ≤ c := by
  rcases h.2 with ⟨e, h0⟩ | ⟨_, _, _, e, _, _, hle, _⟩
  · omega
  · injection e with _ _ e3; omega
theorem OwV.lt (h : OwV w base A n c vs) : ∀ b o s, A = some ⟨b, o, s⟩ → base ≤ b ∧ b < w.heap.size := fun b o s e => by
  subst e; exact World.ownsRow.lt h b rfl
theorem OwV.keep (h : OwV w base A n c vs) (hk : ∀ b, A = some ⟨b, 0, none⟩ → w'.heap[b]? = w.heap[b]?) : OwV w' base A n c vs := by
  refine ⟨h.1, ?_⟩
  rcases h.2 with h2 | ⟨g, cap, cur, e, hg, hh, r⟩
  · exact .inl h2
  · refine .inr ⟨g, cap, cur, e, hg, ?_, r⟩
    rw [hk g (by injection e)]; exact hh
theorem OwV.call (h : OwV w base A n c vs) (hb : Below w.heap.size w w') : OwV w' base A n c vs :=
  h.keep fun b e => hb.block b (h.lt b 0 none e).2
theorem OwV.alloc (h : OwV w base A n c vs) (o : Obj) : OwV (w.alloc o) base A n c vs := World.ownsRow.alloc h o
theorem OwV.lower (h : OwV w base A n c vs) {base' : Nat} (hb : base' ≤ base) : OwV w base' A n c vs := by
  refine ⟨h.1, ?_⟩
  rcases h.2 with h2 | ⟨g, cap, cur, e, hg, r⟩
  · exact .inl h2
  · exact .inr ⟨g, cap, cur, e, by omega, r⟩
theorem OwV.cell {g : Nat} (h : OwV w base (some ⟨g, 0, none⟩) n c vs) {j : Nat} {x : Value} (hj : vs[j]? = some x) : w.cell? ⟨g, j, none⟩ = some x := by
  have hi : j < n := by
    have h1 := h.len
    have h2 := (List.getElem?_eq_some_iff.1 hj).1
    omega
  have h' : w.ownsRow base 22 1 (.slice (some ⟨g, 0, none⟩) n c) n vs := h
  have := World.ownsRow.cellAt h' j (by omega)
  rw [this, hj]
end
theorem ownV_empty (w : World) : OwV (w.alloc (.cells #[] 22)) w.heap.size (some ⟨w.heap.size, 0, none⟩) 0 0 [] :=
  ⟨rfl, .inr ⟨w.heap.size, 0, #[], rfl, Nat.le_refl _, heap_alloc_new w _, Nat.le_refl _, by unfold maxLen; omega, rfl, rfl⟩⟩

theorem ownV_below {w w1 : World} {base n c : Nat} {A : Option Addr} {vs : List Value} (hown : OwV w base A n c vs) (hgr : w.grownBy w1 (A.map (·.block))) (hbase : base ≤ w.heap.size) : Below base w w1 :=
  (Below.refl _ _).grown hgr hbase (fun k hk => by
    cases A with
    | none => cases hk
    | some ad =>
      simp at hk
      obtain ⟨b, oo, sp⟩ := ad
      have := (hown.lt b oo sp rfl).1
      simp at hk; omega)
/-- 'append(out, s)': one slice, onto a row of the call's own. -/
theorem app1V {ops : Array Oper} {rest : List Oper} {o : Oper} {a : Act} {Q : Exit → Act → World → Prop} (hgd : o.guard = none) (s x : Operand)
    (ho : o.op = .call { callee := .builtin .append, args := #[s, x], argTypes := #[37, 37] })
    (w : World) (base : Nat) (A : Option Addr) (n c : Nat) (vs : List Value) (D : Option Addr) (m d : Nat)
    (hs : a.eval s = .slice A n c) (hx : a.eval x = .slice (some ⟨w.heap.size, 0, none⟩) 1 1) (hown : OwV w base A n c vs) (hlen : n ≤ 1000000) (hbase : base ≤ w.heap.size)
    (h : ∀ g c' w', OwV w' base (some ⟨g, 0, none⟩) (n + 1) c' (vs ++ [.slice D m d]) → w.grownBy w' (A.map (·.block)) → Below base w w' → (A.map (·.block) = some g ∨ w.heap.size ≤ g) → wpList Try.prog ops Q rest (a.put o.dst (.slice (some ⟨g, 0, none⟩) (n + 1) c')) w') :
    wpList Try.prog ops Q (o :: rest) a (w.alloc (.cells #[.slice D m d] 22)) := by
  obtain ⟨i0, hi, hz0, hz1, hz2⟩ := info_parts info22
  refine wpList_append_lies _ hgd s x 37 ho base 22 i0 (.slice none 0 0) 1 24 Try.underlying37 hi hz0 hz1 hz2 rfl (by decide) (.slice A n c) n vs hs (World.ownsRow.alloc hown _)
    ⟨w.heap.size, 0, none⟩ 1 1 [.slice D m d] hx rfl (cell_one_new _ _ _) (by intro u hu; simp at hu; subst hu; rfl) (by omega) (by unfold maxLen; omega) (by omega) (by simp; omega) (w.heap.size + 1) (by simp) ?_
  intro g cap w1 ho1 hg1 hat hlt
  have e : Value.ownBlock (.slice A n c) = A.map (·.block) := by cases A <;> rfl
  rw [e] at hg1 hat
  have hgr : w.grownBy w1 (A.map (·.block)) := (World.grownBy_alloc w _ _).trans hg1
  refine h g cap w1 ho1 hgr (ownV_below hown hgr hbase) ?_
  rcases hat with hat | hat
  · exact .inl hat
  · exact .inr (by omega)

/-- A slice that reads as ints, its block not g. -/
def SlA (w : World) (g : Nat) (v : Value) (xs : List Int) : Prop :=
  ∃ A n c, v = .slice A n c ∧ Rd w w.heap.size A n xs ∧ n ≤ c ∧ c ≤ 9223372036854775807 ∧ (0 < n → ∀ b o, A = some ⟨b, o, none⟩ → b ≠ g)
def Sls (w : World) (g : Nat) (vs : List Value) (yss : List (List Int)) : Prop := vs.length = yss.length ∧ ∀ (i : Nat) v ys, vs[i]? = some v → yss[i]? = some ys → SlA w g v ys
theorem SlA.call {w w' : World} {g : Nat} {v : Value} {xs : List Int} (h : SlA w g v xs) (k : Below w.heap.size w w') : SlA w' g v xs := by
  obtain ⟨A, n, c, h1, h2, h3, h4, h5⟩ := h
  exact ⟨A, n, c, h1, h2.call (Nat.le_refl _) k, h3, h4, h5⟩
theorem Sls.call {w w' : World} {g : Nat} {vs : List Value} {yss : List (List Int)} (h : Sls w g vs yss) (k : Below w.heap.size w w') : Sls w' g vs yss :=
  ⟨h.1, fun i v ys h1 h2 => (h.2 i v ys h1 h2).call k⟩
/-- What is read stays so, where the row of slices itself grows. -/
theorem SlA.grow {w w' : World} {g g' : Nat} {v : Value} {xs : List Int} (h : SlA w g v xs) (hg : w.grownBy w' (some g)) (hat : some g = some g' ∨ w.heap.size ≤ g') : SlA w' g' v xs := by
  obtain ⟨A, n, c, h1, h2, h3, h4, h5⟩ := h
  refine ⟨A, n, c, h1, (h2.grown hg (Nat.le_refl _) (fun hn b o e e2 => h5 hn b o e (by injection e2 with e2; exact e2.symm))).more hg.size, h3, h4, fun hn b o e => ?_⟩
  obtain ⟨b', o', e', hb', _⟩ := h2.pos hn
  rw [e] at e'; injection e' with e'; injection e' with e1 e2; subst e1
  have := h5 hn b o e
  rcases hat with e3 | e3
  · injection e3 with e3; omega
  · omega
theorem Sls.snoc {w : World} {g : Nat} {vs : List Value} {yss : List (List Int)} {v : Value} {ys : List Int} (h : Sls w g vs yss) (hv : SlA w g v ys) : Sls w g (vs ++ [v]) (yss ++ [ys]) := by
  refine ⟨by simp [h.1], fun i u zs h1 h2 => ?_⟩
  rcases Nat.lt_trichotomy i vs.length with hl | hl | hl
  · rw [List.getElem?_append_left hl] at h1
    rw [List.getElem?_append_left (by rw [← h.1]; exact hl)] at h2
    exact h.2 i u zs h1 h2
  · subst hl
    rw [List.getElem?_append_right (Nat.le_refl _), Nat.sub_self] at h1
    rw [h.1, List.getElem?_append_right (Nat.le_refl _), Nat.sub_self] at h2
    simp at h1 h2; subst h1; subst h2; exact hv
  · rw [List.getElem?_eq_none (by simp; omega)] at h1; cases h1
theorem rds_of {w : World} {base g n c : Nat} {vs : List Value} {yss : List (List Int)} (h : OwV w base (some ⟨g, 0, none⟩) n c vs) (hs : Sls w g vs yss) : Rds w w.heap.size (some ⟨g, 0, none⟩) n yss := by
  refine ⟨by rw [← hs.1, h.len], fun hn => ⟨g, 0, rfl, (h.lt g 0 none rfl).2, fun i ys hy => ?_⟩⟩
  obtain ⟨v, hv⟩ : ∃ v, vs[i]? = some v := ⟨_, List.getElem?_eq_getElem (by rw [hs.1]; exact (List.getElem?_eq_some_iff.1 hy).1)⟩
  obtain ⟨A, m, d, rfl, h2, h3, h4, _⟩ := hs.2 i v ys hv hy
  exact ⟨A, m, d, by rw [Nat.zero_add]; exact h.cell hv, h2, h3, h4⟩

def fews (xss : List (List Int)) (k : Nat) : List (List Int) := (xss.take k).map (·.take 40)
theorem fews_snoc {xss : List (List Int)} {k : Nat} {xs : List Int} (h : xss[k]? = some xs) : fews xss (k + 1) = fews xss k ++ [xs.take 40] := by
  unfold fews; rw [List.take_add_one, h]; simp

set_option maxRecDepth 100000 in
set_option maxHeartbeats 2000000 in
theorem rows_c (A : Option Addr) (m c : Nat) (xss : List (List Int)) (w : World) (hR : Rds w w.heap.size A m xss) (hm : m ≤ 9223372036854775807) :
    Calls Try.prog 21 #[.slice A m c] w fun e w' => ∃ g k c' vs, e = .returned (.slice (some ⟨g, 0, none⟩) k c') ∧ k ≤ 6 ∧ OwV w' w.heap.size (some ⟨g, 0, none⟩) k c' vs ∧ Sls w' g vs (fews xss 6) ∧ Below w.heap.size w w' := by
  have HXL := Lib.hid hR.1
  go_enter Try.func21, Try.ntmps21
  go_wp2
  go_loopw [3, 4] (fun v i wr => ∃ (k g c' : Nat) (vs : List Value), k ≤ m ∧ k ≤ 6 ∧ i = .int .i64 k ∧ v = .slice (some ⟨g, 0, none⟩) k c' ∧ OwV wr w.heap.size (some ⟨g, 0, none⟩) k c' vs ∧ Sls wr g vs (fews xss k) ∧ Below w.heap.size w wr) (fun _ i _ => 6 - (intOf i).toNat)
  case atStart => exact ⟨0, w.heap.size, 0, [], by omega, by omega, rfl, rfl, ownV_empty w, ⟨rfl, fun i v ys h => by simp at h⟩, (Below.refl _ _).alloc (Nat.le_refl _) _⟩
  case round =>
    obtain ⟨k, g, c', vs, hk, hk6, rfl, rfl, hO, hS, hB⟩ := hrel
    have bsr := hB.size
    by_cases hlt : k < m ∧ k < 6
    · obtain ⟨hl1, hl2⟩ := hlt
      have rr := hR.below hB
      obtain ⟨b, o, rfl, hbw, hc⟩ := rr.pos (by omega)
      obtain ⟨xs, hxs⟩ : ∃ xs, xss[k]? = some xs := ⟨_, List.getElem?_eq_getElem (by rw [HXL.out]; exact hl1)⟩
      obtain ⟨Ai, ni, ci, d1, r1, hni, hci⟩ := hc k xs hxs
      have HFS := Lib.hid (fews_snoc hxs)
      have ltg := (hO.lt g 0 none rfl).2
      clear hc hxs rr
      go_wp2_with fail
      refine (few_c _ _ _ _ _ (r1.more bsr) hni hci).mono ?_
      rintro e w2 ⟨A2, c2, rfl, ho2, hb2⟩
      have hO2 := hO.call hb2
      have bs2 := hb2.size
      have hS2 := hS.call hb2
      have hv : SlA w2 g (.slice A2 (min ni 40) c2) (xs.take 40) := ⟨A2, min ni 40, c2, rfl, ho2.rd, ho2.cap, ho2.cmax, fun _ b o e => by have := (ho2.lt b o none e).1; omega⟩
      have hB2 := hB.trans (hb2.mono bsr)
      have HS3 := Lib.hid (hS2.snoc hv)
      clear hS hS2 hv ho2 hb2 hO
      go_wp2_with (at_builtin; refine app1V rfl (.tmp 16) (.tmp 22) rfl w2 w.heap.size _ _ _ _ _ _ _ (by rfl) (by rfl) hO2 (by omega) (by omega) ?_; intro g5 c5 w5 ho5 hg5 hb5 hat5)
      go_roundw
      case rel =>
        refine ⟨k + 1, g5, c5, _, by omega, by omega, by go_num, rfl, ho5, ?_, hB2.trans hb5⟩
        rw [HFS.out]
        exact ⟨HS3.out.1, fun i v ys h1 h2 => (HS3.out.2 i v ys h1 h2).grow hg5 hat5⟩
      case measure => simp [intOf]; omega
    · have e6 : fews xss k = fews xss 6 := by
        unfold fews
        rcases Nat.lt_or_ge k 6 with h | h
        · rw [List.take_of_length_le (by have := HXL.out; omega), List.take_of_length_le (by have := HXL.out; omega)]
        · obtain rfl : k = 6 := by omega
          rfl
      rw [e6] at hS
      clear e6
      rcases Nat.lt_or_ge k m with hkm | hkm
      · have h6 : ¬ k < 6 := by omega
        clear hlt
        go_wp2
        go_ret
        exact ⟨_, _, _, _, rfl, hk6, hO, hS, hB⟩
      · clear hlt
        go_wp2
        go_ret
        exact ⟨_, _, _, _, rfl, hk6, hO, hS, hB⟩

end Go.Proofs.Ytladdpfngoldcaa
