/- Walks: alike, the reference's Partition; rows of rows: what is the call's own; rows. -/
import Derived.Test.YtgcmedkaadagmaaDoorS6W10
namespace Go.Proofs.YtgcmedkaadagmaaDoor.S6
open Go.RowKit

theorem quiet_add_left {P : Program} {f : FuncId} {args : Array Value} {w : World} {a n : Nat} {v : Value}
  (h : Calls P f args (w.drewN (a + n)) fun e w' => e = .returned v ∧ w.drewN (a + n) = w') :
  Calls P f args (w.drewN (a + n)) fun e w'' => e = .returned v ∧ ∃ m, w'' = w.drewN (a + m) :=
 h.mono fun _ _ ⟨he, hm⟩ => ⟨he, n, hm.symm⟩

set_option maxRecDepth 100000 in
set_option maxHeartbeats 1000000 in
theorem alike_c (x y : Int) (A : Option Addr) (m c : Nat) (xss : List (List Int)) (w : World) (hR : Rds w w.heap.size A m xss) (hm : m ≤ 1000) (hl : ∀ xs ∈ xss, xs.length ≤ 1000) :
  Calls Tryd.prog 74 #[.int .i64 x, .int .i64 y, .slice A m c] w fun e w' => e = .returned (.bool (decide (∀ xs ∈ xss, (x ∈ xs ↔ y ∈ xs)))) ∧ ∃ k, w' = w.drewN k := by
 have HLL := Lib.hid hl
 have HXL := Lib.hid hR.1
 clear hl
 go_enter Tryd.func74, Tryd.ntmps74
 go_wp2
 go_loopw [7] (fun i wr => ∃ k d : Nat, k ≤ m ∧ i = .int .i64 k ∧ (∀ xs ∈ xss.take k, (x ∈ xs ↔ y ∈ xs)) ∧ wr = w.drewN d) (fun i _ => m - (intOf i).toNat)
 case atStart => exact ⟨0, 0, by omega, rfl, fun xs h => by simp at h, rfl⟩
 case round =>
  obtain ⟨k, d, hk, rfl, ht, rfl⟩ := hrel
  have HT := Lib.hid ht; clear ht
  by_cases hlt : k < m
  ·obtain ⟨b, o, rfl, hbw, hc⟩ := hR.pos (by omega)
   obtain ⟨xs, hxs⟩ : ∃ xs, xss[k]? = some xs := ⟨_, List.getElem?_eq_getElem (by rw [HXL.out]; exact hlt)⟩
   obtain ⟨Ai, ni, ci, d1, r1, _, _⟩ := hc k xs hxs
   have hxl := HLL.out xs (List.mem_of_getElem? hxs)
   rw [r1.len] at hxl
   have HXS := Lib.hid hxs
   clear hc hxs
   have k0 : (0 : Int) ≤ (k : Int) := by omega
   have kn : (k : Int) < (m : Int) := by omega
   have cx := fun n0 => rhas_c Ai ni ci xs x (w.drewN n0) (r1.drewN n0) (by omega)
   have cy := fun n0 => rhas_c Ai ni ci xs y (w.drewN n0) (r1.drewN n0) (by omega)
   obtain ⟨P, hP⟩ : ∃ P, decide (x ∈ xs) = P := ⟨_, rfl⟩
   obtain ⟨Q, hQ⟩ : ∃ Q, decide (y ∈ xs) = Q := ⟨_, rfl⟩
   rw [hP] at cx
   rw [hQ] at cy
   have CX := Lib.hid cx; have CY := Lib.hid cy; have HP := Lib.hid hP; have HQ := Lib.hid hQ
   clear cx cy hP hQ r1
   by_cases hpq : P = Q
   ·subst hpq
    have t1 : (P != P) = false := by simp
    go_wp2
    go_quiet ((first | (go_at_call 21; (with_reducible refine quiet_add_left (CX.out _))) | (go_at_call 21; (with_reducible refine quiet_add_left (CY.out _)))))
    go_wp2
    go_roundw
    case rel =>
     refine ⟨k + 1, d + nq, by omega, by go_num, fun ys hy => ?_, by simp⟩
     rw [List.take_add_one, HXS.out] at hy
     rcases List.mem_append.1 hy with hy | hy
     ·exact HT.out ys hy
     ·simp at hy; subst hy
      have := HP.out.trans HQ.out.symm
      exact decide_eq_decide.1 this
    case measure => simp [intOf]; omega
   ·have t1 : (P != Q) = true := by rw [bne_iff_ne]; exact hpq
    have hne : decide (∀ xs ∈ xss, (x ∈ xs ↔ y ∈ xs)) = false := by
     rw [decide_eq_false_iff_not]
     intro h
     exact hpq (by rw [← HP.out, ← HQ.out]; exact decide_eq_decide.2 (h xs (List.mem_of_getElem? HXS.out)))
    have HNE := Lib.hid hne
    have c2 : (P = true ∧ Q = false) ∨ (P = false ∧ Q = true) := by cases P <;> cases Q <;> simp at hpq ⊢
    clear hne hpq t1
    rcases c2 with ⟨h1, h2⟩ | ⟨h1, h2⟩
    all_goals
     subst h1; subst h2
     go_wp2
     go_quiet ((first | (go_at_call 21; (with_reducible refine quiet_add_left (CX.out _))) | (go_at_call 21; (with_reducible refine quiet_add_left (CY.out _)))))
     go_wp2
     go_ret
     exact ⟨ret_bool HNE.out.symm, drN _ _ _⟩
  ·go_wp2
   go_ret
   refine ⟨ret_bool ?_, d, rfl⟩
   have := HT.out
   rw [List.take_of_length_le (by have := HXL.out; omega)] at this
   simpa using this

theorem alike_b (x y : Int) (A : Option Addr) (m c : Nat) (xss : List (List Int)) (w : World) (hR : Rds w w.heap.size A m xss) (hm : m ≤ 1000) (hl : ∀ xs ∈ xss, xs.length ≤ 1000) :
  Calls Tryd.prog 74 #[.int .i64 x, .int .i64 y, .slice A m c] w fun e w' => e = .returned (.bool (decide (∀ xs ∈ xss, (x ∈ xs ↔ y ∈ xs)))) ∧ Below w.heap.size w w' :=
 (alike_c x y A m c xss w hR hm hl).mono fun _ _ ⟨he, _, hk⟩ => ⟨he, by rw [hk]; exact below_drewN (Below.refl _ _) _⟩

-- the first ones, in order
def firsts (xss : List (List Int)) (i : Nat) : List Nat := (List.range i).filter fun j => decide (firstOf (sig xss) j = j)
theorem firsts_len (xss : List (List Int)) (i : Nat) : (firsts xss i).length = nF (sig xss) i := rfl
theorem firsts_succ (xss : List (List Int)) (i : Nat) : firsts xss (i + 1) = firsts xss i ++ if firstOf (sig xss) i = i then [i] else [] := by
 unfold firsts
 rw [List.range_succ, List.filter_append]
 by_cases h : firstOf (sig xss) i = i <;> simp [h]
theorem firsts_at {xss : List (List Int)} {i j : Nat} (hj : j < i) (hf : firstOf (sig xss) j = j) : (firsts xss i)[nF (sig xss) j]? = some j := by
 induction i with
 | zero => omega
 | succ i ih =>
  rw [firsts_succ]
  by_cases e : j = i
  ·subst e
   rw [if_pos hf, List.getElem?_append_right (by rw [firsts_len]; exact Nat.le_refl _), firsts_len, Nat.sub_self]; rfl
  ·have := ih (by omega)
   rw [List.getElem?_append_left (List.getElem?_eq_some_iff.1 this).1]; exact this
theorem firsts_class {xss : List (List Int)} {i p f : Nat} (h : (firsts xss i)[p]? = some f) : f < i ∧ firstOf (sig xss) f = f ∧ nF (sig xss) f = p := by
 have hm := List.mem_of_getElem? h
 unfold firsts at hm
 rw [List.mem_filter] at hm
 have h1 := List.mem_range.1 hm.1
 have h2 : firstOf (sig xss) f = f := by simpa using hm.2
 refine ⟨h1, h2, ?_⟩
 have h3 := firsts_at h1 h2
 obtain ⟨l1, e1⟩ := List.getElem?_eq_some_iff.1 h
 obtain ⟨l2, e2⟩ := List.getElem?_eq_some_iff.1 h3
 have hnd : (firsts xss i).Pairwise (· < ·) := List.Pairwise.filter _ List.pairwise_lt_range
 rcases Nat.lt_trichotomy (nF (sig xss) f) p with hl | hl | hl
 ·have := List.pairwise_iff_getElem.1 hnd _ _ l2 l1 hl; omega
 ·exact hl
 ·have := List.pairwise_iff_getElem.1 hnd _ _ l1 l2 hl; omega
/-- The place at which the search among the first ones stops. -/
theorem firsts_stop {xss : List (List Int)} {i p f : Nat} (h : (firsts xss i)[p]? = some f) (hk : sig xss f = sig xss i) : classOf (sig xss) i = p := by
 obtain ⟨h1, h2, h3⟩ := firsts_class h
 rw [← (class_eq (sig xss) f i).2 hk, class_new h2, h3]
theorem firsts_none {xss : List (List Int)} {i : Nat} (h : ∀ p f : Nat, (firsts xss i)[p]? = some f → sig xss f ≠ sig xss i) : firstOf (sig xss) i = i := by
 rcases Nat.lt_or_ge (firstOf (sig xss) i) i with hl | hg
 ·exact absurd (fo_key (sig xss) i) (h _ _ (firsts_at hl (fo_fo _ _)))
 ·have := fo_le (sig xss) i; omega
theorem sig_alike (xss : List (List Int)) (i j : Nat) : decide (∀ xs ∈ xss, ((i : Int) ∈ xs ↔ (j : Int) ∈ xs)) = decide (sig xss i = sig xss j) := by rw [decide_eq_decide, sig_eq]

def ints (l : List Nat) : List Int := l.map (fun (k : Nat) => (k : Int))
theorem ints_get {l : List Nat} {k p : Nat} (h : l[k]? = some p) : (ints l)[k]? = some (p : Int) := by simp [ints, h]
theorem ints_snoc (l : List Nat) (k : Nat) : ints (l ++ [k]) = ints l ++ [(k : Int)] := by simp [ints]

/-- Two rows of the call's own, each in a block of its own. -/
structure P2 (w : World) (base g1 n1 c1 : Nat) (x1 : List Int) (g2 n2 c2 : Nat) (x2 : List Int) : Prop where
 o1 : Ow w base (some ⟨g1, 0, none⟩) n1 c1 x1
 o2 : Ow w base (some ⟨g2, 0, none⟩) n2 c2 x2
 d12 : g1 ≠ g2
theorem P2.app {w w' : World} {base g1 n1 c1 g2 n2 c2 : Nat} {x1 x2 : List Int} (h : P2 w base g1 n1 c1 x1 g2 n2 c2 x2) {g m d : Nat} {y : List Int}
  (ho : Ow w' base (some ⟨g, 0, none⟩) m d y) (hg : w.grownBy w' (some g1)) (hat : some g1 = some g ∨ w.heap.size ≤ g) : P2 w' base g m d y g2 n2 c2 x2 := by
 have l2 := h.o2.lt g2 0 none rfl
 have e12 := h.d12
 refine ⟨ho, h.o2.keep (fun b e => ?_), ?_⟩
 ·injection e with e; injection e with e1; subst e1; exact hg.block g2 l2.2 (by simp; omega)
 ·rcases hat with e | e
  ·injection e with e; omega
  ·omega
theorem P2.swap {w : World} {base g1 n1 c1 g2 n2 c2 : Nat} {x1 x2 : List Int} (h : P2 w base g1 n1 c1 x1 g2 n2 c2 x2) : P2 w base g2 n2 c2 x2 g1 n1 c1 x1 := ⟨h.o2, h.o1, h.d12.symm⟩
theorem P2.call {w w' : World} {base g1 n1 c1 g2 n2 c2 : Nat} {x1 x2 : List Int} (h : P2 w base g1 n1 c1 x1 g2 n2 c2 x2) (k : Below w.heap.size w w') : P2 w' base g1 n1 c1 x1 g2 n2 c2 x2 := ⟨h.o1.call k, h.o2.call k, h.d12⟩

theorem rpart_nil (n : Int) (A : Option Addr) (m c : Nat) (w : World) (h : n < 1 ∨ 65536 < n) :
  Calls Tryd.prog 49 #[.int .i64 n, .slice A m c] w fun e w' => e = .returned (.slice none 0 0) ∧ w = w' := by
 rcases h with h | h
 ·go_enter Tryd.func49, Tryd.ntmps49
  go_wp2
  go_ret
  exact ⟨rfl, rfl⟩
 ·have t : decide (n < 1) = false := by simp; omega
  go_enter Tryd.func49, Tryd.ntmps49
  go_wp2
  go_ret
  exact ⟨rfl, rfl⟩

set_option maxRecDepth 100000 in
set_option maxHeartbeats 4000000 in
theorem rpart_c (n : Nat) (A : Option Addr) (m c : Nat) (xss : List (List Int)) (w : World) (hR : Rds w w.heap.size A m xss) (hn1 : 1 ≤ n) (hn2 : n ≤ 65536) (hm : m ≤ 100) (hl : ∀ xs ∈ xss, xs.length ≤ 1000) :
  Calls Tryd.prog 49 #[.int .i64 n, .slice A m c] w fun e w' => ∃ A' c', e = .returned (.slice A' n c') ∧ Ow w' w.heap.size A' n c' (partL xss n) ∧ Below w.heap.size w w' := by
 have HLL := Lib.hid hl
 clear hl
 have hst : P2 ((w.alloc (.cells #[] 3)).alloc (.cells #[] 3)) w.heap.size w.heap.size 0 0 (partL xss 0) (w.heap.size + 1) 0 0 (ints (firsts xss 0)) := by
  have o2 := ((own_empty (w.alloc (.cells #[] 3))).lower (base' := w.heap.size) (by simp))
  rw [show (w.alloc (.cells #[] 3)).heap.size = w.heap.size + 1 by simp] at o2
  exact ⟨(own_empty w).alloc _, o2, by omega⟩
 have HST := Lib.hid hst
 clear hst
 go_enter Tryd.func49, Tryd.ntmps49
 go_wp2
 go_loopw [5, 6, 7] (fun u v i wr => ∃ (k g1 c1 g2 c2 : Nat), k ≤ n ∧ i = .int .i64 k ∧ u = .slice (some ⟨g1, 0, none⟩) k c1 ∧ v = .slice (some ⟨g2, 0, none⟩) (nF (sig xss) k) c2 ∧ P2 wr w.heap.size g1 k c1 (partL xss k) g2 (nF (sig xss) k) c2 (ints (firsts xss k)) ∧ Below w.heap.size w wr) (fun _ _ i _ => n - (intOf i).toNat)
 case atStart => exact ⟨0, w.heap.size, 0, w.heap.size + 1, 0, by omega, rfl, rfl, rfl, HST.out, ((Below.refl _ _).alloc (Nat.le_refl _) _).alloc (by simp) _⟩
 case round =>
  obtain ⟨k, g1, c1, g2, c2, hk, rfl, rfl, rfl, hP, hB⟩ := hrel
  obtain ⟨wo, rfl⟩ : ∃ wo : World, wo = wr := ⟨_, rfl⟩
  have bsr := hB.size
  by_cases hlt : k < n
  ·have rr := hR.call (Nat.le_refl _) hB
   have hnl := nF_le (sig xss) k
   have HPS := Lib.hid (partF_succ (sig xss) k)
   have HFS := Lib.hid (firsts_succ xss k)
   have HNS := Lib.hid (nF_succ (sig xss) k)
   have HFL := Lib.hid (firsts_len xss k)
   generalize hq : nF (sig xss) k = q at *
   go_wp2
   go_loopw [8] (fun j wr => ∃ (p : Nat), p ≤ q ∧ j = .int .i64 p ∧ (∀ t f, t < p → (firsts xss k)[t]? = some f → sig xss f ≠ sig xss k) ∧ Below wo.heap.size wo wr) (fun j _ => q - (intOf j).toNat)
   case atStart => exact ⟨0, by omega, rfl, fun t f h => by omega, Below.refl _ _⟩
   case round =>
    obtain ⟨p, hp, rfl, hno, hB2⟩ := hrel
    have HNO := Lib.hid hno
    clear hno
    have hP2 := hP.call hB2
    have rr2 := rr.call (Nat.le_refl _) hB2
    have bs2 := hB2.size
    have bb2 := hB.trans (hB2.mono bsr)
    by_cases hpq : p < q
    ·obtain ⟨f, hf⟩ : ∃ f, (firsts xss k)[p]? = some f := ⟨_, List.getElem?_eq_getElem (by rw [HFL.out]; exact hpq)⟩
     have d1 := hP2.o2.cell (ints_get hf)
     have ca := alike_b (f : Int) (k : Int) A m c xss wr rr2 (by omega) HLL.out
     rw [sig_alike] at ca
     have HF := Lib.hid hf
     clear hf
     by_cases hs : sig xss f = sig xss k
     ·rw [decide_eq_true hs] at ca
      have CA := Lib.hid ca
      have HCL := Lib.hid (firsts_stop HF.out hs)
      have hfc := firsts_class HF.out
      have hne : firstOf (sig xss) k ≠ k := by
       intro e
       have := fo_min (sig xss) k f hs
       omega
      have HNE := Lib.hid hne
      have t1 : (p == q) = false := by rw [beq_eq_false_iff_ne]; omega
      have t2 : ((p : Int) == (q : Int)) = false := by rw [beq_eq_false_iff_ne]; omega
      clear ca hfc hne hs
      have HP := Lib.hid hP2
      go_wp2_with first
       | (go_at_call 74; refine CA.out.mono ?_; rintro e w4 ⟨rfl, hb4⟩; have hP4 := HP.out.call hb4; have o4 := hP4.o1; have HP4 := Lib.hid hP4; have bb4 := bb2.trans (hb4.mono (Nat.le_trans bsr bs2)); have bs4' := bb4.size; clear hP4)
       | (at_builtin; refine app1 rfl (.tmp 46) (.tmp 48) rfl w4 w.heap.size _ _ _ _ _ (by rfl) (by rfl) o4 (by omega) (by omega) ?_; intro g5 c5 w5 ho5 hg5 hb5 hat5 hcap5)
      have HP5 := Lib.hid (HP4.out.app ho5 hg5 hat5)
      go_roundw
      case rel =>
       have hn' := HNS.out
       rw [if_neg HNE.out] at hn'
       have hf' := HFS.out
       rw [if_neg HNE.out, List.append_nil] at hf'
       refine ⟨k + 1, g5, c5, g2, c2, by omega, by go_num, rfl, ?_, ?_, bb4.trans hb5⟩
       ·rw [hn', Nat.add_zero]
       ·unfold partL
        rw [hn', Nat.add_zero, hf', HPS.out, HCL.out]; exact HP5.out
      case measure => simp [intOf]; omega
     ·rw [decide_eq_false hs] at ca
      have CA := Lib.hid ca
      clear ca
      go_wp2_with (go_at_call 74; refine CA.out.mono ?_; rintro e w4 ⟨rfl, hb4⟩)
      go_roundw
      case rel =>
       refine ⟨p + 1, by omega, by go_num, fun t f' ht hf' => ?_, hB2.trans (hb4.mono bs2)⟩
       by_cases e : t = p
       ·subst e; rw [HF.out] at hf'; injection hf' with hf'; subst hf'; exact hs
       ·exact HNO.out t f' (by omega) hf'
      case measure => simp [intOf]; omega
    ·obtain rfl : p = q := by omega
     have hfo : firstOf (sig xss) k = k := firsts_none (fun t f hf => HNO.out t f (by
      have := (List.getElem?_eq_some_iff.1 hf).1; rw [HFL.out] at this; exact this) hf)
     have HFO := Lib.hid hfo
     have HCN := Lib.hid (class_new hfo)
     have HP := Lib.hid hP2
     have o2 := hP2.o2
     have bs2' := bb2.size
     clear hfo hP2
     have t0 : decide ((p : Int) < (p : Int)) = false := by simp
     go_wp2_with first
      | (at_builtin; refine app1 rfl (.tmp 42) (.tmp 44) rfl wr w.heap.size _ _ _ _ _ (by rfl) (by rfl) o2 (by omega) (by omega) ?_; intro g5 c5 w5 ho5 hg5 hb5 hat5 hcap5; have hP5 := (HP.out.swap.app ho5 hg5 hat5).swap; have o5 := hP5.o1; have HP5 := Lib.hid hP5; have bs5 := hb5.size; clear ho5 hg5 hat5 hcap5 hP5)
      | (at_builtin; refine app1 rfl (.tmp 46) (.tmp 48) rfl w5 w.heap.size _ _ _ _ _ (by rfl) (by rfl) o5 (by omega) (by omega) ?_; intro g6 c6 w6 ho6 hg6 hb6 hat6 hcap6; have HP6 := Lib.hid (HP5.out.app ho6 hg6 hat6); clear ho6 hg6 hat6 hcap6)
     go_roundw
     case rel =>
      have hn' := HNS.out
      rw [if_pos HFO.out] at hn'
      have hf' := HFS.out
      rw [if_pos HFO.out] at hf'
      refine ⟨k + 1, g6, c6, g5, c5, by omega, by go_num, rfl, ?_, ?_, (bb2.trans hb5).trans hb6⟩
      ·rw [hn']
      ·unfold partL
       have e := HCN.out
       rw [hq] at e
       rw [hn', hf', ints_snoc, HPS.out, e]; exact HP6.out
     case measure => simp [intOf]; omega
  ·go_wp2
   go_ret
   obtain rfl : k = n := by omega
   exact ⟨_, _, rfl, hP.o1, hB⟩

end Go.Proofs.YtgcmedkaadagmaaDoor.S6
