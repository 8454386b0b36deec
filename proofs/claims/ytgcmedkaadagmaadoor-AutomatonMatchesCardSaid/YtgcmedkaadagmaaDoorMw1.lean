/- Walks: what rules see and match, and the iterators of what they see. -/
import Derived.Test.YtgcmedkaadagmaaDoorRw
import Derived.RangeFuncNested
import Derived.RangeFuncBound
import Derived.RangeFuncCalls
import Derived.RangeFuncLeaves
import Derived.Shelf.Abstract
import Derived.Shelf.RegionOpen
import Derived.OwnWalkIn
import Derived.TacticsInMore
import Derived.LoopNIn
import Derived.LoopIn
import Derived.Sort.QuietIn
namespace Go.Proofs.YtgcmedkaadagmaaDoor
open Go.RowKit Go.Shelf
theorem isMark_out {F : Fnt} {g : Int} (h : g < 0 ∨ (F.gly.length : Int) ≤ g) : isMark F g = false := by
 unfold isMark
 rcases h with h | h
 ·simp [show ¬ (0 ≤ g) by omega]
 ·rw [List.getElem?_eq_none (by omega)]; simp
theorem isMark_in {F : Fnt} {k : Nat} {x : Gly} (h : F.gly[k]? = some x) : isMark F (k : Int) = x.mark := by
 unfold isMark; simp [h]
set_option maxRecDepth 100000 in
set_option maxHeartbeats 400000 in
theorem isMark_c (Bw : Nat) (f : FV) (F : Fnt) (g : Int) (w : World) (hf : IsF w (lo w.heap.size) f F) (hw : w.cell? ⟨Bw, 1, none⟩ = some (.slice f.ga f.gn f.gc)) :
  Calls Tryd.prog 89 #[.pointer (some ⟨Bw, 0, none⟩), .int .i64 g] w fun e w' => e = .returned (.bool (isMark F g)) ∧ w = w' := by
 obtain ⟨hg, _, hd, _⟩ := hf
 have hl := hg.len
 have hd1 := hd.1
 have hd2 := hd.2
 by_cases h0 : g < 0
 ·have e := isMark_out (F := F) (.inl h0)
  rw [e]; clear e hl
  have t0 : decide (0 ≤ g) = false := by simp; omega
  go_enter Tryd.func89, Tryd.ntmps89
  go_wp2
  go_ret
  exact ⟨rfl, rfl⟩
 ·by_cases h1 : (f.gn : Int) ≤ g
  ·have e := isMark_out (F := F) (g := g) (.inr (by omega))
   rw [e]; clear e hl
   have t0 : decide (0 ≤ g) = true := by simp; omega
   have t1 : decide (g < (f.gn : Int)) = false := by simp; omega
   go_enter Tryd.func89, Tryd.ntmps89
   go_wp2
   go_ret
   exact ⟨rfl, rfl⟩
  ·obtain ⟨k, rfl⟩ : ∃ k : Nat, g = k := ⟨g.toNat, by omega⟩
   obtain ⟨b, o, ha, _, hc⟩ := hg.pos (by omega)
   obtain ⟨x, hx⟩ := at_some F.gly k (by omega)
   obtain ⟨cs, ⟨u0, u1, u3, u4, u5, A, n, c, u7, u8, rfl, _⟩, hcc⟩ := hc k x hx
   have c2 := hcc 2 _ rfl
   rw [ha] at hw
   rw [isMark_in hx]
   clear hx hc hcc hl
   have t0 : (0 : Int) ≤ (k : Int) := by omega
   have t1 : (k : Int) < (f.gn : Int) := by omega
   go_enter Tryd.func89, Tryd.ntmps89
   go_wp2
   go_ret
   exact ⟨rfl, rfl⟩
theorem idx_none {xs : List Int} {g : Int} (h : ∀ (i : Nat) (x : Int), xs[i]? = some x → x ≠ g) : xs.idxOf? g = none := by
 rw [List.idxOf?_eq_none_iff]
 intro hm
 obtain ⟨i, hi⟩ := List.mem_iff_getElem?.1 hm
 exact h i g hi rfl
theorem idx_some {xs : List Int} {g : Int} {k : Nat} (hk : xs[k]? = some g) (h : ∀ (i : Nat) (x : Int), i < k → xs[i]? = some x → x ≠ g) : xs.idxOf? g = some k := by
 obtain ⟨hl, rfl⟩ := List.getElem?_eq_some_iff.1 hk
 rw [List.idxOf?, List.findIdx?_eq_some_iff_getElem]
 refine ⟨hl, by simp, fun j hj => ?_⟩
 have := h j xs[j] hj (List.getElem?_eq_getElem (by omega))
 simpa using this
def idxI (xs : List Int) (g : Int) : Int := match xs.idxOf? g with | some k => (k : Int) | none => -1
set_option maxHeartbeats 400000 in
theorem index_c (A : Option Addr) (n c : Nat) (xs : List Int) (g : Int) (w : World) (h : Rd w (lo w.heap.size) A n xs) (hn : n ≤ 9223372036854775807) :
  Calls Tryd.prog 83 #[.slice A n c, .int .i64 g] w fun e w' => e = .returned (.int .i64 (idxI xs g)) ∧ w = w' := by
 have HL := Lib.hid h.len
 go_enter Tryd.func83, Tryd.ntmps83
 go_wp2
 go_loop [8] (fun i => ∃ k : Nat, k ≤ n ∧ i = .int .i64 k ∧ ∀ (j : Nat) (x : Int), j < k → xs[j]? = some x → x ≠ g) (fun i => n - (intOf i).toNat)
 case atStart => exact ⟨0, by omega, rfl, fun j x hj => by omega⟩
 case round =>
  obtain ⟨k, hk, rfl, hno⟩ := hrel
  have HNO := Lib.hid hno; clear hno
  by_cases hlt : k < n
  ·obtain ⟨b, o, rfl, _, hc⟩ := h.pos (by omega)
   obtain ⟨x, hx⟩ := at_some xs k (by have := HL.out; omega)
   obtain ⟨cs, rfl, hcc⟩ := hc k x hx
   have c0 := hcc 0 _ rfl
   rw [Nat.mul_one, Nat.add_zero] at c0
   have HX := Lib.hid hx; clear hx hc hcc
   have hkz : (0 : Int) ≤ (k : Int) := by omega
   have hkn : (k : Int) < (n : Int) := by omega
   by_cases hxg : g = x
   ·subst hxg
    go_wp2
    go_ret
    refine ⟨ret_int ?_, rfl⟩
    unfold idxI
    rw [idx_some HX.out HNO.out]
   ·have e : (g == x) = false := by simpa using hxg
    go_wp2
    go_round
    case rel =>
     refine ⟨k + 1, by omega, by go_num, fun j y hj hy => ?_⟩
     by_cases ej : j = k
     ·subst ej; rw [HX.out] at hy; injection hy with hy; subst hy; exact fun h => hxg h.symm
     ·exact HNO.out j y (by omega) hy
    case measure => simp [intOf]; omega
  ·go_wp2
   go_ret
   refine ⟨ret_int ?_, rfl⟩
   unfold idxI
   rw [idx_none fun j x hx => HNO.out j x (by have := (List.getElem?_eq_some_iff.1 hx).1; have := HL.out; omega) hx]
theorem idx_contains (xs : List Int) (g : Int) : decide (0 ≤ idxI xs g) = xs.contains g := by
 unfold idxI
 cases h : xs.idxOf? g with
 | none => rw [List.idxOf?_eq_none_iff] at h; simp [h]
 | some k =>
  have hm : g ∈ xs := by
   refine Classical.byContradiction fun hn => ?_
   rw [List.idxOf?_eq_none_iff.2 hn] at h; cases h
  simp [hm]
theorem contains_c (A : Option Addr) (n c : Nat) (xs : List Int) (g : Int) (w : World) (h : Rd w (lo w.heap.size) A n xs) (hn : n ≤ 9223372036854775807) :
  Calls Tryd.prog 56 #[.slice A n c, .int .i64 g] w fun e w' => e = .returned (.bool (xs.contains g)) ∧ w = w' := by
 have hi := idx_contains xs g
 have HI := Lib.hid hi; clear hi
 go_enter Tryd.func56, Tryd.ntmps56
 go_wp2_with (go_at_call 83; refine (index_c _ _ _ _ _ _ h hn).mono ?_; rintro e w' ⟨rfl, rfl⟩)
 go_ret
 exact ⟨ret_bool HI.out, rfl⟩
theorem quiet_leftw {P : Program} {f : FuncId} {args : Array Value} {w : World} {n : Nat} {v : Value}
  (h : Calls P f args (w.drewN n) fun e w' => e = .returned v ∧ w.drewN n = w') : Calls P f args (w.drewN n) fun e w'' => e = .returned v ∧ ∃ m, w'' = w.drewN m :=
 h.mono fun _ _ ⟨he, hm⟩ => ⟨he, n, hm.symm⟩
theorem quiet_dw {P : Program} {f : FuncId} {args : Array Value} {w : World} {n : Nat} {v : Value}
  (h : Calls P f args (w.drewN n) fun e w' => e = .returned v ∧ ∃ d, w' = (w.drewN n).drewN d) : Calls P f args (w.drewN n) fun e w'' => e = .returned v ∧ ∃ m, w'' = w.drewN m :=
 h.mono fun _ _ ⟨he, d, hm⟩ => ⟨he, n + d, by rw [hm]; simp⟩
theorem quiet_add_dw {P : Program} {f : FuncId} {args : Array Value} {w : World} {a n : Nat} {v : Value}
  (h : Calls P f args (w.drewN (a + n)) fun e w' => e = .returned v ∧ ∃ d, w' = (w.drewN (a + n)).drewN d) :
  Calls P f args (w.drewN (a + n)) fun e w'' => e = .returned v ∧ ∃ m, w'' = w.drewN (a + m) :=
 h.mono fun _ _ ⟨he, d, hm⟩ => ⟨he, n + d, by rw [hm, World.drewN_drewN, Nat.add_assoc]⟩
def HasOK (h : FuncId) (P : List Int → Prop) : Prop := (∀ args w, Sem.run Tryd.prog (callFunc h args) w = Result.ok (Next.enter h args) w) ∧ ∀ (A : Option Addr) (n c : Nat) (xs : List Int) (g : Int) (w : World), Rd w (lo w.heap.size) A n xs → n ≤ 9223372036854775807 → P xs →
 Calls Tryd.prog h #[.slice A n c, .int .i64 g] w fun e w' => e = .returned (.bool (xs.contains g)) ∧ ∃ d, w' = w.drewN d
theorem has_contains : HasOK 56 fun _ => True := ⟨fun _ _ => by kernel_rfl, fun A n c xs g w h hn _ => (contains_c A n c xs g w h hn).mono fun _ _ ⟨he, hw⟩ => ⟨he, 0, hw.symm⟩⟩
def natI (l : List Nat) : List Int := l.map fun (n : Nat) => (n : Int)
theorem natI_at {l : List Nat} {i p : Nat} (h : l[i]? = some p) : (natI l)[i]? = some (p : Int) := by unfold natI; rw [List.getElem?_map, h]; rfl
theorem natI_len (l : List Nat) : (natI l).length = l.length := by simp [natI]
theorem natI_take (l : List Nat) (k : Nat) : natI (l.take k) = (natI l).take k := by simp [natI, List.map_take]
theorem natI_drop (l : List Nat) (k : Nat) : natI (l.drop k) = (natI l).drop k := by simp [natI, List.map_drop]
theorem inSets_cons (run : List Itm) (s : List Int) (ss : List (List Int)) (p : Nat) (ps : List Nat) : inSets run (s :: ss) (p :: ps) = (s.contains (gAt run p) && inSets run ss ps) := rfl
theorem inSets_drop {run : List Itm} {sets : List (List Int)} {places : List Nat} {k : Nat} {s : List Int} {p : Nat} (hs : sets[k]? = some s) (hp : places[k]? = some p) :
  inSets run (sets.drop k) (places.drop k) = (s.contains (gAt run p) && inSets run (sets.drop (k + 1)) (places.drop (k + 1))) := by
 obtain ⟨h1, rfl⟩ := List.getElem?_eq_some_iff.1 hs
 obtain ⟨h2, rfl⟩ := List.getElem?_eq_some_iff.1 hp
 rw [List.drop_eq_getElem_cons h1, List.drop_eq_getElem_cons h2, inSets_cons]
theorem gAt_some {run : List Itm} {i : Nat} {it : Itm} (h : run[i]? = some it) : gAt run i = it.g := by simp [gAt, h]
theorem fAt_some {run : List Itm} {i : Nat} {it : Itm} (h : run[i]? = some it) : fAt run i = it.f := by simp [fAt, h]
set_option maxRecDepth 100000 in
set_option maxHeartbeats 1000000 in
theorem inSets_c (h : FuncId) (P : List Int → Prop) (hh : HasOK h P) (Bw Bm : Nat) (RA SA PA : Option Addr) (rn rc sn sc pn pc : Nat) (run : List Itm) (sets : List (List Int)) (places : List Nat) (w : World)
  (h9 : w.cell? ⟨Bw, 9, none⟩ = some (.slice RA rn rc)) (hI : RdI w (lo w.heap.size) RA rn run) (h2 : w.cell? ⟨Bm, 2, none⟩ = some (.func (.func h) #[] #[]))
  (hS : RdV w (lo w.heap.size) SA sn sets) (hP : Rd w (lo w.heap.size) PA pn (natI places)) (hl : sets.length ≤ places.length) (hp : ∀ p ∈ places, p < run.length) (hs : ∀ s ∈ sets, P s)
  (hrn : rn ≤ 9223372036854775807) (hsn : sn ≤ 9223372036854775807) (hpn : pn ≤ 9223372036854775807) (b : Bool) (hb : inSets run sets places = b) :
  Calls Tryd.prog 91 #[.pointer (some ⟨Bw, 0, none⟩), .pointer (some ⟨Bm, 0, none⟩), .slice SA sn sc, .slice PA pn pc] w fun e w' => e = .returned (.bool b) ∧ ∃ d, w' = w.drewN d := by
 have hcf := hh.1
 have HL := Lib.hid hl; have HP := Lib.hid hp; have HS := Lib.hid hs; have HB := Lib.hid hb; have HH := Lib.hid hh.2
 have L1 := Lib.hid hI.len; have L2 := Lib.hid hS.len; have L3 := Lib.hid hP.len
 clear hl hp hs hb hh
 go_enter Tryd.func91, Tryd.ntmps91
 go_wp2
 go_loopw [13] (fun i wr => ∃ k d : Nat, k ≤ sn ∧ i = .int .i64 k ∧ inSets run (sets.drop k) (places.drop k) = b ∧ wr = w.drewN d) (fun i _ => sn - (intOf i).toNat)
 case atStart => exact ⟨0, 0, by omega, rfl, HB.out, rfl⟩
 case round =>
  obtain ⟨k, d, hk, rfl, hbk, rfl⟩ := hrel
  have HBK := Lib.hid hbk; clear hbk
  by_cases hlt : k < sn
  ·have hkp : k < places.length := by have := HL.out; have := L2.out; omega
   obtain ⟨b1, o1, rfl, _, hc1⟩ := hS.pos (by omega)
   obtain ⟨s, hsk⟩ := at_some sets k (by have := L2.out; omega)
   obtain ⟨cs, ⟨A, n, c, rfl, hA, hd⟩, hcc⟩ := hc1 k s hsk
   have g1 := hcc 0 _ rfl
   rw [Nat.mul_one, Nat.add_zero] at g1
   clear hc1 hcc
   obtain ⟨p, hpk⟩ := at_some places k hkp
   have hpr := HP.out p (List.mem_of_getElem? hpk)
   obtain ⟨b2, o2, rfl, _, hc2⟩ := hP.pos (by have := L3.out; rw [natI_len] at this; omega)
   obtain ⟨cs, rfl, hcc⟩ := hc2 k _ (natI_at hpk)
   have g2 := hcc 0 _ rfl
   rw [Nat.mul_one, Nat.add_zero] at g2
   clear hc2 hcc
   obtain ⟨it, hit⟩ := at_some run p hpr
   obtain ⟨b3, o3, rfl, _, hc3⟩ := hI.pos (by have := L1.out; omega)
   obtain ⟨cs, rfl, hcc⟩ := hc3 p it hit
   have g3 := hcc 0 _ rfl
   rw [Nat.add_zero] at g3
   clear hc3 hcc
   have hkz : (0 : Int) ≤ (k : Int) := by omega
   have hkn : (k : Int) < (sn : Int) := by omega
   have hkq : (k : Int) < (pn : Int) := by have := L3.out; rw [natI_len] at this; omega
   have hpz : (0 : Int) ≤ (p : Int) := by omega
   have hprn : (p : Int) < (rn : Int) := by have := L1.out; omega
   have hst := inSets_drop (run := run) hsk hpk
   rw [gAt_some hit] at hst
   have HST := Lib.hid hst
   have hC := fun (w0 : World) (h0 : Rd w0 (lo w0.heap.size) A n s) => HH.out A n c s it.g w0 h0 (by have := hd.1; have := hd.2; omega) (HS.out s (List.mem_of_getElem? hsk))
   have HC := Lib.hid hC
   have HRD := Lib.hid hA
   clear hst hsk hpk hit hC hA hd
   cases hv : s.contains it.g with
   | true =>
    rw [hv] at HST HC
    clear hv
    go_wp2
    go_quiet (((first | (with_reducible refine quiet_dw (HC.out _ ?_)) | (with_reducible refine quiet_add_dw (HC.out _ ?_))); exact HRD.out))
    go_wp2
    go_roundw
    case rel => exact ⟨k + 1, _, by omega, by go_num, by have := HST.out; rw [HBK.out] at this; simpa using this.symm, rfl⟩
    case measure => simp [intOf]; omega
   | false =>
    rw [hv] at HST HC
    clear hv
    go_wp2
    go_quiet (((first | (with_reducible refine quiet_dw (HC.out _ ?_)) | (with_reducible refine quiet_add_dw (HC.out _ ?_))); exact HRD.out))
    go_wp2
    go_ret
    exact ⟨ret_bool (by have := HST.out; rw [HBK.out] at this; simpa using this.symm), drN _ _ _⟩
  ·go_wp2
   go_ret
   refine ⟨ret_bool ?_, _, rfl⟩
   have := HBK.out
   rw [List.drop_eq_nil_of_le (by have := L2.out; omega)] at this
   exact this
theorem begL_out {F : Fnt} {ign : Bool} {run : List Itm} {k : Int} {forms : List Int} (h : k < 0 ∨ (run.length : Int) ≤ k) : begL F ign run k forms = false := by
 unfold begL
 rcases h with h | h
 ·simp [show ¬ (0 ≤ k) by omega]
 ·simp [show ¬ (k < run.length) by omega]
theorem begL_in {F : Fnt} {ign : Bool} {run : List Itm} {k : Nat} {forms : List Int} {it : Itm} (h : run[k]? = some it) : begL F ign run (k : Int) forms = (!(ign && isMark F it.g) && (forms.isEmpty || forms.contains it.f)) := by
 have hl := (List.getElem?_eq_some_iff.1 h).1
 unfold begL seenB
 rw [Int.toNat_natCast, gAt_some h, fAt_some h]
 simp [hl]
set_option maxRecDepth 100000 in
set_option maxHeartbeats 1000000 in
theorem begins_c (Bw Bm : Nat) (f : FV) (F : Fnt) (RA FA : Option Addr) (rn rc fn fc : Nat) (run : List Itm) (ign : Bool) (k : Int) (forms : List Int) (w : World)
  (hf : IsF w (lo w.heap.size) f F) (h1 : w.cell? ⟨Bw, 1, none⟩ = some (.slice f.ga f.gn f.gc)) (h9 : w.cell? ⟨Bw, 9, none⟩ = some (.slice RA rn rc)) (hI : RdI w (lo w.heap.size) RA rn run)
  (hm : w.cell? ⟨Bm, 1, none⟩ = some (.bool ign)) (hF : Rd w (lo w.heap.size) FA fn forms) (hrn : rn ≤ 9223372036854775807) (hfn : fn ≤ 9223372036854775807) :
  Calls Tryd.prog 79 #[.pointer (some ⟨Bw, 0, none⟩), .pointer (some ⟨Bm, 0, none⟩), .int .i64 k, .slice FA fn fc] w fun e w' => e = .returned (.bool (begL F ign run k forms)) ∧ w = w' := by
 have hl := hI.len
 by_cases h0 : k < 0
 ·rw [begL_out (.inl h0)]
  clear hl
  go_enter Tryd.func79, Tryd.ntmps79
  go_wp2
  go_ret
  exact ⟨rfl, rfl⟩
 ·have t0 : decide (k < 0) = false := by simp; omega
  by_cases hk : (rn : Int) ≤ k
  ·rw [begL_out (.inr (by omega))]
   clear hl
   go_enter Tryd.func79, Tryd.ntmps79
   go_wp2
   go_ret
   exact ⟨rfl, rfl⟩
  ·obtain ⟨k, rfl⟩ : ∃ j : Nat, k = j := ⟨k.toNat, by omega⟩
   have t1 : decide ((rn : Int) ≤ (k : Int)) = false := by simp; omega
   have t2 : decide (rn ≤ k) = false := by simp; omega
   obtain ⟨it, hit⟩ := at_some run k (by omega)
   obtain ⟨b, o, rfl, _, hc⟩ := hI.pos (by omega)
   obtain ⟨cs, rfl, hcc⟩ := hc k it hit
   have g0 := hcc 0 _ rfl
   have g2 := hcc 2 _ rfl
   rw [Nat.add_zero] at g0
   rw [begL_in hit]
   have kz : (0 : Int) ≤ (k : Int) := by omega
   have kn : (k : Int) < (rn : Int) := by omega
   have HC := Lib.hid (contains_c FA fn fc forms it.f w hF hfn)
   have HM := Lib.hid (isMark_c Bw f F it.g w hf h1)
   have hfl := hF.len
   clear hit hc hcc hl hI hF hf
   by_cases hem : fn = 0
   ·subst hem
    have hnil : forms = [] := List.eq_nil_of_length_eq_zero hfl
    subst hnil
    cases ign with
    | false =>
     go_enter Tryd.func79, Tryd.ntmps79
     go_wp2
     go_ret
     exact ⟨rfl, rfl⟩
    | true =>
     cases hmk : isMark F it.g with
     | false =>
      rw [hmk] at HM
      clear hmk
      go_enter Tryd.func79, Tryd.ntmps79
      go_wp2_with (go_at_call 89; refine HM.out.mono ?_; rintro e w' ⟨rfl, rfl⟩)
      go_ret
      exact ⟨rfl, rfl⟩
     | true =>
      rw [hmk] at HM
      clear hmk
      go_enter Tryd.func79, Tryd.ntmps79
      go_wp2_with (go_at_call 89; refine HM.out.mono ?_; rintro e w' ⟨rfl, rfl⟩)
      go_ret
      exact ⟨rfl, rfl⟩
   ·have hne : forms.isEmpty = false := by cases forms with | nil => simp at hfl; omega | cons _ _ => rfl
    rw [hne]
    have e0 : ((fn : Int) == 0) = false := by simp; omega
    have e1 : (fn == 0) = false := by simp; omega
    clear hfl hne
    cases ign with
    | false =>
     go_enter Tryd.func79, Tryd.ntmps79
     go_wp2_with (go_at_call 56; refine HC.out.mono ?_; rintro e w' ⟨rfl, rfl⟩)
     go_ret
     exact ⟨ret_bool (by simp), rfl⟩
    | true =>
     cases hmk : isMark F it.g with
     | false =>
      rw [hmk] at HM
      clear hmk
      go_enter Tryd.func79, Tryd.ntmps79
      go_wp2_with (first | (go_at_call 89; refine HM.out.mono ?_; rintro e w' ⟨rfl, rfl⟩) | (go_at_call 56; refine HC.out.mono ?_; rintro e w' ⟨rfl, rfl⟩))
      go_ret
      exact ⟨ret_bool (by simp), rfl⟩
     | true =>
      rw [hmk] at HM
      clear hmk
      go_enter Tryd.func79, Tryd.ntmps79
      go_wp2_with (go_at_call 89; refine HM.out.mono ?_; rintro e w' ⟨rfl, rfl⟩)
      go_ret
      exact ⟨rfl, rfl⟩
theorem Rd.drop {w : World} {S : Nat → Prop} {b o n : Nat} {xs : List Int} (h : Rd w S (some ⟨b, o, none⟩) n xs) (k : Nat) (hk : k ≤ n) : Rd w S (some ⟨b, o + k, none⟩) (n - k) (xs.drop k) := by
 refine ⟨by rw [List.length_drop, h.1], fun h0 => ?_⟩
 obtain ⟨b', o', e, hb, hc⟩ := h.2 (by omega)
 injection e with e; injection e with e1 e2; subst e1; subst e2
 refine ⟨b, o + k, rfl, hb, fun i x hx => ?_⟩
 rw [List.getElem?_drop] at hx
 obtain ⟨cs, h1, h2⟩ := hc _ _ hx
 refine ⟨cs, h1, fun j v hv => ?_⟩
 rw [← h2 j v hv]
 congr 2; omega
theorem Rd.alloc {w : World} {A : Option Addr} {n : Nat} {xs : List Int} (h : Rd w (lo w.heap.size) A n xs) (o : Obj) : Rd (w.alloc o) (lo (w.alloc o).heap.size) A n xs :=
 h.mono (fun b hb => by unfold lo at *; simp; omega) (fun b hb => Below.heap_alloc w o b hb)
theorem RdV.alloc {w : World} {A : Option Addr} {n : Nat} {xs : List (List Int)} (h : RdV w (lo w.heap.size) A n xs) (o : Obj) : RdV (w.alloc o) (lo (w.alloc o).heap.size) A n xs :=
 h.mono (fun b hb => by unfold lo at *; simp; omega) (fun b hb => Below.heap_alloc w o b hb)
theorem RdI.alloc {w : World} {A : Option Addr} {n : Nat} {xs : List Itm} (h : RdI w (lo w.heap.size) A n xs) (o : Obj) : RdI (w.alloc o) (lo (w.alloc o).heap.size) A n xs :=
 h.mono (fun b hb => by unfold lo at *; simp; omega) (fun b hb => Below.heap_alloc w o b hb)
set_option maxRecDepth 100000 in
set_option maxHeartbeats 2000000 in
theorem matches_c (h : FuncId) (P : List Int → Prop) (hh : HasOK h P) (Bw Bm : Nat) (RA FA BA : Option Addr) (rn rc fn fc bn bc : Nat) (run : List Itm) (r : Rul) (cs : List Value) (fore back : List Nat) (w : World)
  (h9 : w.cell? ⟨Bw, 9, none⟩ = some (.slice RA rn rc)) (hI : RdI w (lo w.heap.size) RA rn run) (h2 : w.cell? ⟨Bm, 2, none⟩ = some (.func (.func h) #[] #[]))
  (hr : ERul w (lo w.heap.size) cs r) (hF : Rd w (lo w.heap.size) FA fn (natI fore)) (hB : Rd w (lo w.heap.size) BA bn (natI back)) (hpf : ∀ p ∈ fore, p < run.length) (hpb : ∀ p ∈ back, p < run.length)
  (hs : (∀ s ∈ r.inn, P s) ∧ (∀ s ∈ r.ahead, P s) ∧ (∀ s ∈ r.back, P s)) (hrn : rn ≤ 9223372036854775807) (hfn : fn ≤ fc ∧ fc ≤ 9223372036854775807) (hbn : bn ≤ 9223372036854775807) (hsum : r.inn.length + r.ahead.length ≤ 9223372036854775807) :
  Calls Tryd.prog 82 #[.pointer (some ⟨Bw, 0, none⟩), .pointer (some ⟨Bm, 0, none⟩), .agg cs.toArray, .slice FA fn fc, .slice BA bn bc] w fun e w' => e = .returned (.bool (fits run r fore back)) ∧ Below w.heap.size w w' := by
 obtain ⟨A1, n1, c1, A2, n2, c2, A3, n3, c3, A4, n4, c4, A5, n5, c5, rfl, r1, r2, r3, _, _, d1, d2, d3, _⟩ := hr
 have l1 := r1.len
 have l2 := r2.len
 have l3 := r3.len
 have lf := hF.len
 have lb := hB.len
 rw [natI_len] at lf lb
 have hw := h9
 obtain ⟨o1, ho1⟩ : ∃ ob : Obj, ob = .cells #[.slice A1 n1 c1, .slice A2 n2 c2, .slice A3 n3 c3, .slice A4 n4 c4, .slice A5 n5 c5, .int .i64 r.x] 58 := ⟨_, rfl⟩
 by_cases e0 : n2 = 0
 ·have hfalse : fits run r fore back = false := by
   unfold fits; simp [List.isEmpty_iff.2 (List.eq_nil_of_length_eq_zero (l2.trans e0))]
  rw [hfalse]
  subst e0
  clear hfalse l1 l2 l3 lf lb ho1
  go_enter Tryd.func82, Tryd.ntmps82
  go_wp2
  go_ret
  exact ⟨rfl, (Below.refl _ _).alloc (Nat.le_refl _) _⟩
 ·have q0 : ((n2 : Int) == 0) = false := by simp; omega
  have q0' : (n2 == 0) = false := by simp; omega
  have hne : r.inn.isEmpty = false := by
   cases hin : r.inn with
   | nil => rw [hin] at l2; simp at l2; omega
   | cons _ _ => rfl
  by_cases e1 : fn < n2 + n3
  ·have hfalse : fits run r fore back = false := by
    unfold fits; simp [show ¬ (r.inn.length + r.ahead.length ≤ fore.length) by omega]
   rw [hfalse]
   have q1 : (fn : Int) < (n2 : Int) + (n3 : Int) := by omega
   have q2 : (n2 : Int) + (n3 : Int) ≤ 9223372036854775807 := by omega
   clear hfalse l1 l2 l3 lf lb ho1 hne
   go_enter Tryd.func82, Tryd.ntmps82
   go_wp2
   go_ret
   exact ⟨rfl, (Below.refl _ _).alloc (Nat.le_refl _) _⟩
  ·have q1 : decide ((fn : Int) < (n2 : Int) + (n3 : Int)) = false := by simp; omega
   have q2 : (n2 : Int) + (n3 : Int) ≤ 9223372036854775807 := by omega
   by_cases e2 : bn < n1
   ·have hfalse : fits run r fore back = false := by
     unfold fits; simp [show ¬ (r.back.length ≤ back.length) by omega]
    rw [hfalse]
    clear hfalse l1 l2 l3 lf lb ho1 hne
    go_enter Tryd.func82, Tryd.ntmps82
    go_wp2
    go_ret
    exact ⟨rfl, (Below.refl _ _).alloc (Nat.le_refl _) _⟩
   ·have q3 : decide ((bn : Int) < (n1 : Int)) = false := by simp; omega
    have q4 : decide (bn < n1) = false := by simp; omega
    have hfit : fits run r fore back = (inSets run r.inn fore && (inSets run r.ahead (fore.drop r.inn.length) && inSets run r.back back)) := by
     unfold fits; rw [hne]; simp [show r.inn.length + r.ahead.length ≤ fore.length by omega, show r.back.length ≤ back.length by omega]
    rw [hfit]
    obtain ⟨b, o, rfl, _, _⟩ := hF.pos (by omega)
    have HA := Lib.hid fun (v : Bool) (hv : inSets run r.inn fore = v) (d : Nat) => inSets_c h P hh Bw Bm RA A2 (some ⟨b, o, none⟩) rn rc n2 c2 fn fc run r.inn fore ((w.alloc o1).drewN d) (cell_alloc h9 o1) (hI.alloc o1) (cell_alloc h2 o1) (r2.alloc o1) (hF.alloc o1) (by omega) hpf hs.1 hrn (by have := d2.1; have := d2.2; omega) (by omega) v hv
    have hD := hF.drop n2 (by omega)
    rw [← natI_drop] at hD
    have HBB := Lib.hid fun (v : Bool) (hv : inSets run r.ahead (fore.drop n2) = v) (A : Option Addr) (cc : Nat) (hA : A = some ⟨b, o + n2, none⟩ ∨ fn - n2 = 0) (d : Nat) => inSets_c h P hh Bw Bm RA A3 A rn rc n3 c3 (fn - n2) cc run r.ahead (fore.drop n2) ((w.alloc o1).drewN d) (cell_alloc h9 o1) (hI.alloc o1) (cell_alloc h2 o1) (r3.alloc o1)
     (by
      rcases hA with rfl | h0
      ·exact hD.alloc o1
      ·rw [h0]
       have : fore.drop n2 = [] := List.drop_eq_nil_of_le (by omega)
       rw [this]
       exact SlE.nil) (by rw [List.length_drop]; omega) (fun p hp => hpf p (List.mem_of_mem_drop hp)) hs.2.1 hrn (by have := d3.1; have := d3.2; omega) (by omega) v hv
    have HCC := Lib.hid fun (v : Bool) (hv : inSets run r.back back = v) (d : Nat) => inSets_c h P hh Bw Bm RA A1 BA rn rc n1 c1 bn bc run r.back back ((w.alloc o1).drewN d) (cell_alloc h9 o1) (hI.alloc o1) (cell_alloc h2 o1) (r1.alloc o1) (hB.alloc o1) (by omega) hpb hs.2.2 hrn (by have := d1.1; have := d1.2; omega) hbn v hv
    rw [l2]
    subst ho1
    have z0 : (0 : Int) ≤ (n2 : Int) := by omega
    have z1 : (n2 : Int) ≤ (fn : Int) := by omega
    have z2 : (fn : Int) ≤ (fc : Int) := by omega
    generalize hva : inSets run r.inn fore = va at *
    generalize hvb : inSets run r.ahead (fore.drop n2) = vb at *
    generalize hvc : inSets run r.back back = vc at *
    have HVA := Lib.hid hva; have HVB := Lib.hid hvb; have HVC := Lib.hid hvc
    clear hva hvb hvc hfit l1 l2 l3 lf lb hne hD hF hB r1 r2 r3 h9 hI h2 hpf hpb hs hh
    cases va with
    | false =>
     go_enter Tryd.func82, Tryd.ntmps82
     go_wp2
     go_quiet ((with_reducible refine quiet_dw (HA.out _ rfl _)))
     go_wp2
     go_ret
     exact ⟨rfl, below_drewN ((Below.refl _ _).alloc (Nat.le_refl _) _) _⟩
    | true =>
     by_cases ec : n2 = fc
     ·subst ec
      have efn : fn = n2 := by omega
      subst efn
      clear z1 z2
      have zz : (fn : Int) ≤ (fn : Int) := by omega
      have hq := HBB.out vb rfl (some ⟨b, o, none⟩) 0 (.inr (by omega))
      rw [Nat.sub_self] at hq
      have HB2 := Lib.hid hq
      clear HBB hq
      cases vb with
      | false =>
       go_enter Tryd.func82, Tryd.ntmps82
       go_wp2
       go_quiet ((first | (with_reducible refine quiet_dw (HA.out _ rfl _)) | (with_reducible refine quiet_dw (HB2.out _))))
       go_wp2
       go_ret
       exact ⟨rfl, below_drewN ((Below.refl _ _).alloc (Nat.le_refl _) _) _⟩
      | true =>
       go_enter Tryd.func82, Tryd.ntmps82
       go_wp2
       go_quiet ((first | (with_reducible refine quiet_dw (HA.out _ rfl _)) | (with_reducible refine quiet_dw (HCC.out _ rfl _)) | (with_reducible refine quiet_dw (HB2.out _))))
       go_wp2
       go_ret
       exact ⟨rfl, below_drewN ((Below.refl _ _).alloc (Nat.le_refl _) _) _⟩
     ·have ec2 : n2 < fc := by omega
      have HB2 := Lib.hid (HBB.out vb rfl (some ⟨b, o + n2, none⟩) (fc - n2) (.inl rfl))
      clear HBB
      cases vb with
      | false =>
       go_enter Tryd.func82, Tryd.ntmps82
       go_wp2
       go_quiet ((first | (with_reducible refine quiet_dw (HA.out _ rfl _)) | (with_reducible refine quiet_dw (HB2.out _))))
       go_wp2
       go_ret
       exact ⟨rfl, below_drewN ((Below.refl _ _).alloc (Nat.le_refl _) _) _⟩
      | true =>
       go_enter Tryd.func82, Tryd.ntmps82
       go_wp2
       go_quiet ((first | (with_reducible refine quiet_dw (HA.out _ rfl _)) | (with_reducible refine quiet_dw (HCC.out _ rfl _)) | (with_reducible refine quiet_dw (HB2.out _))))
       go_wp2
       go_ret
       exact ⟨rfl, below_drewN ((Below.refl _ _).alloc (Nat.le_refl _) _) _⟩
attribute [local go_sem] Oper.semAt_some
theorem liftN {n : Nat} {f : FuncId} {args : Array Value} {w : World} {R : Ending → World → Prop} (h : Calls Tryd.prog f args w R) : CallsIn Fence.wide n Tryd.prog f args w R := (callsIn_wide (n := n)).2 h
theorem quiet_inL {m : Nat} {f : FuncId} {args : Array Value} {w : World} {n : Nat} {v : Value}
  (h : Calls Tryd.prog f args (w.drewN n) fun e w' => e = .returned v ∧ w.drewN n = w') : CallsIn Fence.wide m Tryd.prog f args (w.drewN n) fun e w'' => e = .returned v ∧ ∃ m, w'' = w.drewN m :=
 liftN (quiet_leftw h)
theorem seen_c (Bw : Nat) (ign : Bool) (k s : Int) (w : World) :
  Calls Tryd.prog 81 #[.pointer (some ⟨Bw, 0, none⟩), .bool ign, .int .i64 k, .int .i64 s] w fun e w' =>
   e = .returned (.func (.func 90) #[] #[.pointer (some ⟨w.heap.size + 1 + 1, 0, none⟩), .pointer (some ⟨w.heap.size, 0, none⟩), .pointer (some ⟨w.heap.size + 1 + 1 + 1, 0, none⟩), .pointer (some ⟨w.heap.size + 1, 0, none⟩)]) ∧
   w' = (((w.alloc (.cells #[.pointer (some ⟨Bw, 0, none⟩)] 129)).alloc (.cells #[.bool ign] 4)).alloc (.cells #[.int .i64 k] 3)).alloc (.cells #[.int .i64 s] 3) := by
 go_enter Tryd.func81, Tryd.ntmps81
 go_wp2
 go_ret
 exact ⟨rfl, rfl⟩
structure It (w : World) (Bd : Nat) (B1 B2 B3 B4 Bw : Nat) (f : FV) (F : Fnt) (RA : Option Addr) (rn rc : Nat) (run : List Itm) (ign : Bool) (k s : Int) : Prop where
 bd : Bd ≤ w.heap.size
 l1 : B1 < Bd
 l2 : B2 < Bd
 l3 : B3 < Bd
 l4 : B4 < Bd
 lw : Bw < Bd
 c1 : w.cell? ⟨B1, 0, none⟩ = some (.int .i64 k)
 c2 : w.cell? ⟨B2, 0, none⟩ = some (.pointer (some ⟨Bw, 0, none⟩))
 c3 : w.cell? ⟨B3, 0, none⟩ = some (.int .i64 s)
 c4 : w.cell? ⟨B4, 0, none⟩ = some (.bool ign)
 w1 : w.cell? ⟨Bw, 1, none⟩ = some (.slice f.ga f.gn f.gc)
 w9 : w.cell? ⟨Bw, 9, none⟩ = some (.slice RA rn rc)
 run : RdI w (lo Bd) RA rn run
 font : IsF w (lo Bd) f F
 hrn : rn ≤ 9223372036854775806
theorem It.kept {w w' : World} {Bd B1 B2 B3 B4 Bw : Nat} {f : FV} {F : Fnt} {RA : Option Addr} {rn rc : Nat} {run : List Itm} {ign : Bool} {k s : Int} (h : It w Bd B1 B2 B3 B4 Bw f F RA rn rc run ign k s) (hk : Kept (lo Bd) w w') (hb : Bd ≤ w'.heap.size) : It w' Bd B1 B2 B3 B4 Bw f F RA rn rc run ign k s :=
 ⟨hb, h.l1, h.l2, h.l3, h.l4, h.lw, (hk.cell (p := ⟨B1, 0, none⟩) h.l1).trans h.c1, (hk.cell (p := ⟨B2, 0, none⟩) h.l2).trans h.c2, (hk.cell (p := ⟨B3, 0, none⟩) h.l3).trans h.c3, (hk.cell (p := ⟨B4, 0, none⟩) h.l4).trans h.c4,
  (hk.cell (p := ⟨Bw, 1, none⟩) h.lw).trans h.w1, (hk.cell (p := ⟨Bw, 9, none⟩) h.lw).trans h.w9, h.run.mono (fun _ h => h) hk, h.font.mono (fun _ h => h) hk, h.hrn⟩
theorem kept_size {B : Nat} {w w' : World} (h : Kept (lo B) w w') (hB : B ≤ w.heap.size) : B ≤ w'.heap.size := by
 rcases Nat.eq_zero_or_pos B with h0 | h0
 ·omega
 ·have h1 := h (B - 1) (show B - 1 < B by omega)
  have h2 : B - 1 < w.heap.size := by omega
  rw [show w.heap[B - 1]? = some w.heap[B - 1] from Array.getElem?_eq_getElem h2] at h1
  have := (Array.getElem?_eq_some_iff.1 h1).1
  omega
def Pre (full pre : List Nat) : Prop := ∃ t, full = pre ++ t
set_option maxRecDepth 100000 in
set_option maxHeartbeats 4000000 in
theorem seenUp_stops (m Bd B1 B2 B3 B4 Bw : Nat) (f : FV) (F : Fnt) (RA : Option Addr) (rn rc : Nat) (run : List Itm) (ign : Bool) (k0 : Nat) (w : World) (hm : 1 ≤ m) (hI : It w Bd B1 B2 B3 B4 Bw f F RA rn rc run ign (k0 : Int) 1) :
  SeqStopsK Fence.wide m Tryd.prog 90 #[.pointer (some ⟨B1, 0, none⟩), .pointer (some ⟨B2, 0, none⟩), .pointer (some ⟨B3, 0, none⟩), .pointer (some ⟨B4, 0, none⟩)] (fun (x : Nat) => #[.int .i64 (x : Int)]) (Kept (lo Bd))
   (fun l => l = upL (seenB F ign run) rn k0) (Pre (upL (seenB F ign run) rn k0)) (rn + 1) w := by
 intro l J Jx W hbW hJ hJx hY h0
 have HJ := Lib.hid hJ; clear hJ hJx
 have kW : Kept (lo Bd) w W := (kept_below hbW).sub (fun b hb => Nat.lt_of_lt_of_le hb hI.bd)
 have iW := hI.kept kW (kept_size kW hI.bd)
 clear hbW hI
 have HL := Lib.hid iW.run.len
 have hrn := iW.hrn
 refine callsIn_of_wp Tryd.func90 rfl trivial ?_ rfl
 simp only [Tryd.ntmps90, List.size_toArray, List.length_cons, List.length_nil, Nat.reduceAdd, Nat.reduceSub, Array.replicate_succ, Array.replicate_zero, List.push_toArray, List.append_toArray, List.nil_append, List.cons_append]
 have c1 := iW.c1
 have HY := Lib.hid hY; clear hY
 have hFw : ∀ k, Fence.wide.fn k := fun _ => trivial
 gi_wp2
 clear c1
 gi_loopw [6] (fun vf wr => ∃ (k : Nat) (pre : List Nat), vf = .int .i64 (k : Int) ∧ k0 ≤ k ∧ (k ≤ rn ∨ k = k0) ∧ pre.length ≤ k - k0 ∧ upL (seenB F ign run) rn k0 = pre ++ upL (seenB F ign run) rn k ∧ J pre wr ∧ Kept (lo Bd) W wr ∧ Bd ≤ wr.heap.size) (fun vf _ => rn - (intOf vf).toNat)
 case atStart => exact ⟨k0, [], rfl, Nat.le_refl _, .inr rfl, by simp, rfl, h0, Kept.refl _ _, iW.bd⟩
 case round =>
  obtain ⟨k, pre, rfl, hk1, hk2, hk3, hgr, hJs, hkp, hsz⟩ := hrel
  have HG := Lib.hid hgr; clear hgr
  have iw := iW.kept hkp hsz
  have cw := iw.c2
  have c3 := iw.c3
  have c4 := iw.c4
  have w9 := iw.w9
  by_cases hlt : k < rn
  ·have hz0 : True := trivial
   obtain ⟨b, o, rfl, hb, hc⟩ := iw.run.pos (by have := HL.out; omega)
   obtain ⟨it, hit⟩ := at_some run k (by have := HL.out; omega)
   obtain ⟨cs, rfl, hcc⟩ := hc k it hit
   have g0 := hcc 0 _ rfl
   rw [Nat.add_zero] at g0
   clear hc hcc
   have kz : (0 : Int) ≤ (k : Int) := by omega
   have kn : (k : Int) < (rn : Int) := by omega
   have kd : decide ((k : Int) < (rn : Int)) = true := by simp; omega
   have hMk := fun (d : Nat) => isMark_c Bw f F it.g (wr.drewN d) (iw.font.mono (S' := lo (wr.drewN d).heap.size) (w' := wr.drewN d) (fun b hb => Nat.lt_of_lt_of_le hb iw.bd) (Kept.refl _ _)) iw.w1
   have HM := Lib.hid hMk; clear hMk
   have hsn : seenB F ign run k = !(ign && isMark F it.g) := by unfold seenB; rw [gAt_some hit]
   have YL := Lib.hid fun (d : Nat) => HY.out pre k (wr.drewN d) (HJ.out _ _ _ none hJs (grown_drewN _ _) (fun r e => by cases e)) (by omega)
   have mixed : Tryd.prog.follows Departure.mixedOrders = true := by kernel_rfl
   have yes : seenB F ign run k = true → upL (seenB F ign run) rn k0 = (pre ++ [k]) ++ upL (seenB F ign run) rn (k + 1) := fun h => by rw [HG.out, upL_yes hlt h]; simp
   have no : seenB F ign run k = false → upL (seenB F ign run) rn k0 = pre ++ upL (seenB F ign run) rn (k + 1) := fun h => by rw [HG.out, upL_no hlt h]
   have YS := Lib.hid yes; have NS := Lib.hid no
   clear yes no hit
   cases ign with
   | false =>
    have HS := Lib.hid (YS.out (by rw [hsn]; rfl)); clear hsn HM YS NS
    gi_wp2
    gi_quiet (fail)
    obtain ⟨fn, tmps, assign, body, hy, hRd⟩ := YL.out nq
    have hRd2 := hRd.mono (R' := fun e W' => ∃ bb : Bool, e = .returned (.bool bb) ∧ ((bb = true ∧ J (pre ++ [k]) W' ∧ Kept (lo Bd) (wr.drewN nq) W') ∨ (bb = false ∧ Jx (pre ++ [k]) W'))) (by
     rintro e W' (⟨he, h1, h2⟩ | ⟨he, h1⟩)
     ·exact ⟨true, he, .inl ⟨rfl, h1, h2⟩⟩
     ·exact ⟨false, he, .inr ⟨rfl, h1⟩⟩)
    clear hRd
    gi_wp2_with fail
    refine hRd2.mono ?_
    rintro e W3 ⟨bb, rfl, hPP⟩
    rcases hPP with ⟨rfl, hJ3, hk3⟩ | ⟨rfl, hJx3⟩
    ·have iw3 := iw.kept hk3 (kept_size hk3 hsz)
     have c3' := iw3.c3
     clear hy hRd2
     gi_wp2
     go_roundw
     case rel => exact ⟨k + 1, pre ++ [k], by go_num, by omega, by omega, by simp; omega, HS.out, hJ3, hkp.trans hk3, kept_size hk3 hsz⟩
     case measure => simp [intOf]; omega
    ·clear hy hRd2
     gi_wp2
     refine bodyPost_ret (results_none rfl _ _ _) rfl ?_
     exact ⟨⟨_, rfl⟩, .inr ⟨_, ⟨_, HS.out⟩, hJx3⟩⟩
   | true =>
    cases hmk : isMark F it.g with
    | false =>
     rw [hmk] at HM
     have HS := Lib.hid (YS.out (by rw [hsn, hmk]; rfl)); clear hsn YS NS hmk
     gi_wp2
     gi_quiet ((gi_at_call 89; exact quiet_inL (HM.out _)))
     obtain ⟨fn, tmps, assign, body, hy, hRd⟩ := YL.out nq
     have hRd2 := hRd.mono (R' := fun e W' => ∃ bb : Bool, e = .returned (.bool bb) ∧ ((bb = true ∧ J (pre ++ [k]) W' ∧ Kept (lo Bd) (wr.drewN nq) W') ∨ (bb = false ∧ Jx (pre ++ [k]) W'))) (by
      rintro e W' (⟨he, h1, h2⟩ | ⟨he, h1⟩)
      ·exact ⟨true, he, .inl ⟨rfl, h1, h2⟩⟩
      ·exact ⟨false, he, .inr ⟨rfl, h1⟩⟩)
     clear hRd
     gi_wp2_with fail
     refine hRd2.mono ?_
     rintro e W3 ⟨bb, rfl, hPP⟩
     rcases hPP with ⟨rfl, hJ3, hk3⟩ | ⟨rfl, hJx3⟩
     ·have iw3 := iw.kept hk3 (kept_size hk3 hsz)
      have c3' := iw3.c3
      clear hy hRd2
      gi_wp2
      go_roundw
      case rel => exact ⟨k + 1, pre ++ [k], by go_num, by omega, by omega, by simp; omega, HS.out, hJ3, hkp.trans hk3, kept_size hk3 hsz⟩
      case measure => simp [intOf]; omega
     ·clear hy hRd2
      gi_wp2
      refine bodyPost_ret (results_none rfl _ _ _) rfl ?_
      exact ⟨⟨_, rfl⟩, .inr ⟨_, ⟨_, HS.out⟩, hJx3⟩⟩
    | true =>
     rw [hmk] at HM
     have HS := Lib.hid (NS.out (by rw [hsn, hmk]; rfl)); clear hsn YS NS hmk
     gi_wp2
     gi_quiet ((gi_at_call 89; exact quiet_inL (HM.out _)))
     gi_wp2
     go_roundw
     case rel => exact ⟨k + 1, pre, by go_num, by omega, by omega, by omega, HS.out, HJ.out _ _ _ none hJs (grown_drewN _ _) (fun r e => by cases e), hkp.drewN _, hsz⟩
     case measure => simp [intOf]; omega
  ·have hge : decide ((k : Int) < (rn : Int)) = false := by simp; omega
   have hge2 : decide (k < rn) = false := by simp; omega
   gi_wp2
   go_end0
   refine ⟨⟨_, rfl⟩, .inl ⟨pre, ?_, hJs⟩⟩
   rw [HG.out, upL_end (by omega)]; simp
set_option maxRecDepth 100000 in
set_option maxHeartbeats 4000000 in
theorem seenDn_stops (m Bd B1 B2 B3 B4 Bw : Nat) (f : FV) (F : Fnt) (RA : Option Addr) (rn rc : Nat) (run : List Itm) (ign : Bool) (k0 : Nat) (w : World) (hm : 1 ≤ m) (hI : It w Bd B1 B2 B3 B4 Bw f F RA rn rc run ign ((k0 : Int) - 1) (-1)) (hk0 : k0 ≤ rn) :
  SeqStopsK Fence.wide m Tryd.prog 90 #[.pointer (some ⟨B1, 0, none⟩), .pointer (some ⟨B2, 0, none⟩), .pointer (some ⟨B3, 0, none⟩), .pointer (some ⟨B4, 0, none⟩)] (fun (x : Nat) => #[.int .i64 (x : Int)]) (Kept (lo Bd))
   (fun l => l = dnL (seenB F ign run) k0) (Pre (dnL (seenB F ign run) k0)) (rn + 1) w := by
 intro l J Jx W hbW hJ hJx hY h0
 have HJ := Lib.hid hJ; clear hJ hJx
 have kW : Kept (lo Bd) w W := (kept_below hbW).sub (fun b hb => Nat.lt_of_lt_of_le hb hI.bd)
 have iW := hI.kept kW (kept_size kW hI.bd)
 clear hbW hI
 have HL := Lib.hid iW.run.len
 have hrn := iW.hrn
 refine callsIn_of_wp Tryd.func90 rfl trivial ?_ rfl
 simp only [Tryd.ntmps90, List.size_toArray, List.length_cons, List.length_nil, Nat.reduceAdd, Nat.reduceSub, Array.replicate_succ, Array.replicate_zero, List.push_toArray, List.append_toArray, List.nil_append, List.cons_append]
 have c1 := iW.c1
 have HY := Lib.hid hY; clear hY
 have hFw : ∀ k, Fence.wide.fn k := fun _ => trivial
 gi_wp2
 clear c1
 gi_loopw [6] (fun vf wr => ∃ (k : Nat) (pre : List Nat), vf = .int .i64 ((k : Int) - 1) ∧ k ≤ k0 ∧ k ≤ rn ∧ pre.length + k ≤ k0 ∧ dnL (seenB F ign run) k0 = pre ++ dnL (seenB F ign run) k ∧ J pre wr ∧ Kept (lo Bd) W wr ∧ Bd ≤ wr.heap.size) (fun vf _ => (intOf vf + 1).toNat)
 case atStart => exact ⟨k0, [], rfl, Nat.le_refl _, hk0, by simp, rfl, h0, Kept.refl _ _, iW.bd⟩
 case round =>
  obtain ⟨k, pre, rfl, hk1, hk2, hk3, hgr, hJs, hkp, hsz⟩ := hrel
  have HG := Lib.hid hgr; clear hgr
  have iw := iW.kept hkp hsz
  have cw := iw.c2
  have c3 := iw.c3
  have c4 := iw.c4
  have w9 := iw.w9
  rcases Nat.eq_zero_or_pos k with hz | hlt
  rotate_left
  ·obtain ⟨k, rfl⟩ : ∃ j, k = j + 1 := ⟨k - 1, by omega⟩
   rw [show ((k + 1 : Nat) : Int) - 1 = (k : Int) by omega]
   obtain ⟨b, o, rfl, hb, hc⟩ := iw.run.pos (by have := HL.out; omega)
   obtain ⟨it, hit⟩ := at_some run k (by have := HL.out; omega)
   obtain ⟨cs, rfl, hcc⟩ := hc k it hit
   have g0 := hcc 0 _ rfl
   rw [Nat.add_zero] at g0
   clear hc hcc
   have kz : (0 : Int) ≤ (k : Int) := by omega
   have kn : (k : Int) < (rn : Int) := by omega
   have kd : decide ((k : Int) < (rn : Int)) = true := by simp; omega
   have hMk := fun (d : Nat) => isMark_c Bw f F it.g (wr.drewN d) (iw.font.mono (S' := lo (wr.drewN d).heap.size) (w' := wr.drewN d) (fun b hb => Nat.lt_of_lt_of_le hb iw.bd) (Kept.refl _ _)) iw.w1
   have HM := Lib.hid hMk; clear hMk
   have hsn : seenB F ign run k = !(ign && isMark F it.g) := by unfold seenB; rw [gAt_some hit]
   have YL := Lib.hid fun (d : Nat) => HY.out pre k (wr.drewN d) (HJ.out _ _ _ none hJs (grown_drewN _ _) (fun r e => by cases e)) (by omega)
   have mixed : Tryd.prog.follows Departure.mixedOrders = true := by kernel_rfl
   have yes : seenB F ign run k = true → dnL (seenB F ign run) k0 = (pre ++ [k]) ++ dnL (seenB F ign run) k := fun h => by rw [HG.out, dnL_yes h]; simp
   have no : seenB F ign run k = false → dnL (seenB F ign run) k0 = pre ++ dnL (seenB F ign run) k := fun h => by rw [HG.out, dnL_no h]
   have YS := Lib.hid yes; have NS := Lib.hid no
   clear yes no hit
   cases ign with
   | false =>
    have HS := Lib.hid (YS.out (by rw [hsn]; rfl)); clear hsn HM YS NS
    gi_wp2
    gi_quiet (fail)
    obtain ⟨fn, tmps, assign, body, hy, hRd⟩ := YL.out nq
    have hRd2 := hRd.mono (R' := fun e W' => ∃ bb : Bool, e = .returned (.bool bb) ∧ ((bb = true ∧ J (pre ++ [k]) W' ∧ Kept (lo Bd) (wr.drewN nq) W') ∨ (bb = false ∧ Jx (pre ++ [k]) W'))) (by
     rintro e W' (⟨he, h1, h2⟩ | ⟨he, h1⟩)
     ·exact ⟨true, he, .inl ⟨rfl, h1, h2⟩⟩
     ·exact ⟨false, he, .inr ⟨rfl, h1⟩⟩)
    clear hRd
    gi_wp2_with fail
    refine hRd2.mono ?_
    rintro e W3 ⟨bb, rfl, hPP⟩
    rcases hPP with ⟨rfl, hJ3, hk3⟩ | ⟨rfl, hJx3⟩
    ·have iw3 := iw.kept hk3 (kept_size hk3 hsz)
     have c3' := iw3.c3
     clear hy hRd2
     gi_wp2
     go_roundw
     case rel => exact ⟨k, pre ++ [k], rfl, by omega, by omega, by simp; omega, HS.out, hJ3, hkp.trans hk3, kept_size hk3 hsz⟩
     case measure => simp [intOf]; omega
    ·clear hy hRd2
     gi_wp2
     refine bodyPost_ret (results_none rfl _ _ _) rfl ?_
     exact ⟨⟨_, rfl⟩, .inr ⟨_, ⟨_, HS.out⟩, hJx3⟩⟩
   | true =>
    cases hmk : isMark F it.g with
    | false =>
     rw [hmk] at HM
     have HS := Lib.hid (YS.out (by rw [hsn, hmk]; rfl)); clear hsn YS NS hmk
     gi_wp2
     gi_quiet ((gi_at_call 89; exact quiet_inL (HM.out _)))
     obtain ⟨fn, tmps, assign, body, hy, hRd⟩ := YL.out nq
     have hRd2 := hRd.mono (R' := fun e W' => ∃ bb : Bool, e = .returned (.bool bb) ∧ ((bb = true ∧ J (pre ++ [k]) W' ∧ Kept (lo Bd) (wr.drewN nq) W') ∨ (bb = false ∧ Jx (pre ++ [k]) W'))) (by
      rintro e W' (⟨he, h1, h2⟩ | ⟨he, h1⟩)
      ·exact ⟨true, he, .inl ⟨rfl, h1, h2⟩⟩
      ·exact ⟨false, he, .inr ⟨rfl, h1⟩⟩)
     clear hRd
     gi_wp2_with fail
     refine hRd2.mono ?_
     rintro e W3 ⟨bb, rfl, hPP⟩
     rcases hPP with ⟨rfl, hJ3, hk3⟩ | ⟨rfl, hJx3⟩
     ·have iw3 := iw.kept hk3 (kept_size hk3 hsz)
      have c3' := iw3.c3
      clear hy hRd2
      gi_wp2
      go_roundw
      case rel => exact ⟨k, pre ++ [k], rfl, by omega, by omega, by simp; omega, HS.out, hJ3, hkp.trans hk3, kept_size hk3 hsz⟩
      case measure => simp [intOf]; omega
     ·clear hy hRd2
      gi_wp2
      refine bodyPost_ret (results_none rfl _ _ _) rfl ?_
      exact ⟨⟨_, rfl⟩, .inr ⟨_, ⟨_, HS.out⟩, hJx3⟩⟩
    | true =>
     rw [hmk] at HM
     have HS := Lib.hid (NS.out (by rw [hsn, hmk]; rfl)); clear hsn YS NS hmk
     gi_wp2
     gi_quiet ((gi_at_call 89; exact quiet_inL (HM.out _)))
     gi_wp2
     go_roundw
     case rel => exact ⟨k, pre, rfl, by omega, by omega, by omega, HS.out, HJ.out _ _ _ none hJs (grown_drewN _ _) (fun r e => by cases e), hkp.drewN _, hsz⟩
     case measure => simp [intOf]; omega
  ·subst hz
   gi_wp2
   go_end0
   refine ⟨⟨_, rfl⟩, .inl ⟨pre, ?_, hJs⟩⟩
   rw [HG.out, show dnL (seenB F ign run) 0 = [] from rfl]; simp
end Go.Proofs.YtgcmedkaadagmaaDoor
