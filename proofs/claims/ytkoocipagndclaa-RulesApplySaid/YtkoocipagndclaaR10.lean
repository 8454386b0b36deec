/- Walks: the document's cut. -/
import Derived.Test.YtkoocipagndclaaR9
namespace Go.Proofs.Ytkoocipagndclaa
open Go.RowKit Go.Shelf

theorem RdI.drop {w : World} {S : Nat → Prop} {b o n : Nat} {xs : List Itm} (h : RdI w S (some ⟨b, o, none⟩) n xs) (k : Nat) (hk : k ≤ n) : RdI w S (some ⟨b, o + k * 6, none⟩) (n - k) (xs.drop k) := by
  refine ⟨by rw [List.length_drop, h.1], fun h0 => ?_⟩
  obtain ⟨b', o', e, hb, hc⟩ := h.2 (by omega)
  injection e with e; injection e with e1 e2; subst e1; subst e2
  refine ⟨b, o + k * 6, rfl, hb, fun i x hx => ?_⟩
  rw [List.getElem?_drop] at hx
  obtain ⟨cs, h1, h2⟩ := hc _ _ hx
  refine ⟨cs, h1, fun j v hv => ?_⟩
  rw [← h2 j v hv]
  congr 2; omega
theorem RdI.takeM {w : World} {S : Nat → Prop} {A : Option Addr} {n : Nat} {xs : List Itm} (h : RdI w S A n xs) (m : Nat) (hm : m ≤ n) : RdI w S A m (xs.take m) := SlE.take h m hm
theorem itc_lenN {xs : List Itm} {n : Nat} (h : xs.length = n) : (itc xs).length = n * 6 := by rw [itc_len, h]

set_option maxRecDepth 100000 in
set_option maxHeartbeats 1000000 in
theorem qcut_c (b o rn rc : Nat) (run : List Itm) (p q : Nat) (WA : Option Addr) (wn wc : Nat) (ws : List Itm) (w : World) (hI : RdI w (lo w.heap.size) (some ⟨b, o, none⟩) rn run) (hd : Hd rn rc) (hW : RdI w (lo w.heap.size) WA wn ws) (hpq : p ≤ q) (hq : q ≤ rn) (hrn : rn ≤ 1000000) (hwn : wn ≤ 1000000) :
    Calls Try.prog 49 #[.slice (some ⟨b, o, none⟩) rn rc, .int .i64 (p : Int), .int .i64 (q : Int), .slice WA wn wc] w (RPost w.heap.size w (run.take p ++ (ws ++ run.drop q))) := by
  have b0 : Below w.heap.size w (w.alloc (.cells #[] 51)) := (Below.refl _ _).alloc (Nat.le_refl _) _
  have hc1 := hd.1
  have hc2 := hd.2
  have hP := (hI.takeM p (by omega)).call b0
  have HLP := Lib.hid (itc_lenN hP.len)
  have HLW := Lib.hid (itc_lenN hW.len)
  have p0 : (0 : Int) ≤ (p : Int) := by omega
  have p1 : (p : Int) ≤ (rc : Int) := by omega
  have q0 : (0 : Int) ≤ (q : Int) := by omega
  have q1 : (q : Int) ≤ (rn : Int) := by omega
  have q2 : (rn : Int) ≤ (rc : Int) := by omega
  go_enter Try.func49, Try.ntmps49
  go_upto_region 3 with (at_builtin; refine appP elt_item rfl _ _ rfl _ w.heap.size _ _ _ [] _ _ _ (itc (run.take p)) (by rfl) (by rfl) (own_empty w _ _) HLP.out (news_itc hP) (itc_one _) (by omega) (by simp) ?_; intro A1 c1 w1 o1 hg1 hb1 hat1)
  rw [List.nil_append, Nat.zero_add] at o1
  have b1 := b0.trans hb1
  have hW1 := hW.call b1
  have hs1 := b1.size
  clear hg1 hb1 hat1
  go_upto_region 4 with (at_builtin; refine appP elt_item rfl _ _ rfl _ w.heap.size _ _ _ (itc (run.take p)) _ _ _ (itc ws) (by rfl) (by rfl) o1 HLW.out (news_itc hW1) (itc_one _) (by omega) hs1 ?_; intro A2 c2 w2 o2 hg2 hb2 hat2)
  rw [← itc_app] at o2
  have b2 := b1.trans hb2
  have hs2 := b2.size
  clear hg2 hb2 hat2 o1 hW1 b1 hs1
  by_cases ec : q = rc
  · have hqn : q = rn := by omega
    have HD := Lib.hid (show run.drop q = [] from List.drop_eq_nil_of_le (by have := hI.len; omega))
    subst ec
    subst hqn
    clear q1 q2
    have q3 : (q : Int) ≤ (q : Int) := by omega
    have hN : RdI w2 (lo w2.heap.size) (some ⟨b, o, none⟩) 0 [] := SlE.nil
    go_wp2_with (at_builtin; refine appP elt_item rfl _ _ rfl _ w.heap.size _ _ _ (itc (run.take p ++ ws)) _ 0 _ (itc []) (by rfl) (by rfl) o2 (by rfl) (news_itc hN) (itc_one _) (by omega) hs2 ?_; intro A3 c3 w3 o3 hg3 hb3 hat3)
    go_ret
    rw [← itc_app] at o3
    exact ⟨_, _, _, rfl, by rw [HD.out]; rw [List.append_nil] at o3 ⊢; exact o3, b2.trans hb3⟩
  · have ec2 : q < rc := by omega
    have hD := (hI.drop q hq).call b2
    have HLD := Lib.hid (itc_lenN hD.len)
    go_wp2_with (at_builtin; refine appP elt_item rfl _ _ rfl _ w.heap.size _ _ _ (itc (run.take p ++ ws)) _ (rn - q) _ (itc (run.drop q)) (by rfl) (by rfl) o2 HLD.out (news_itc hD) (itc_one _) (by omega) hs2 ?_; intro A3 c3 w3 o3 hg3 hb3 hat3)
    go_ret
    rw [← itc_app, List.append_assoc] at o3
    exact ⟨_, _, _, rfl, o3, b2.trans hb3⟩

end Go.Proofs.Ytkoocipagndclaa
