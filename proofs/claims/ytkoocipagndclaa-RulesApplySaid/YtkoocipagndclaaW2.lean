/- Walks: inSets, begins, matches. -/
import Derived.Test.YtkoocipagndclaaW1
namespace Go.Proofs.Ytkoocipagndclaa
open Go.RowKit

theorem quiet_left {P : Program} {f : FuncId} {args : Array Value} {w : World} {n : Nat} {v : Value}
    (h : Calls P f args (w.drewN n) fun e w' => e = .returned v ∧ w.drewN n = w') : Calls P f args (w.drewN n) fun e w'' => e = .returned v ∧ ∃ m, w'' = w.drewN m :=
  h.mono fun _ _ ⟨he, hm⟩ => ⟨he, n, hm.symm⟩
theorem quiet_add_left {P : Program} {f : FuncId} {args : Array Value} {w : World} {a n : Nat} {v : Value}
    (h : Calls P f args (w.drewN (a + n)) fun e w' => e = .returned v ∧ w.drewN (a + n) = w') :
    Calls P f args (w.drewN (a + n)) fun e w'' => e = .returned v ∧ ∃ m, w'' = w.drewN (a + m) :=
  h.mono fun _ _ ⟨he, hm⟩ => ⟨he, n, hm.symm⟩
theorem quiet_d {P : Program} {f : FuncId} {args : Array Value} {w : World} {n : Nat} {v : Value}
    (h : Calls P f args (w.drewN n) fun e w' => e = .returned v ∧ ∃ d, w' = (w.drewN n).drewN d) : Calls P f args (w.drewN n) fun e w'' => e = .returned v ∧ ∃ m, w'' = w.drewN m :=
  h.mono fun _ _ ⟨he, d, hm⟩ => ⟨he, n + d, by rw [hm]; simp⟩
theorem quiet_add_d {P : Program} {f : FuncId} {args : Array Value} {w : World} {a n : Nat} {v : Value}
    (h : Calls P f args (w.drewN (a + n)) fun e w' => e = .returned v ∧ ∃ d, w' = (w.drewN (a + n)).drewN d) :
    Calls P f args (w.drewN (a + n)) fun e w'' => e = .returned v ∧ ∃ m, w'' = w.drewN (a + m) :=
  h.mono fun _ _ ⟨he, d, hm⟩ => ⟨he, n + d, by rw [hm, World.drewN_drewN, Nat.add_assoc]⟩

/-- A function that tells of sets for which P holds whether a number is in them. -/
def HasOK (h : FuncId) (P : List Int → Prop) : Prop := (∀ args w, Sem.run Try.prog (callFunc h args) w = Result.ok (Next.enter h args) w) ∧ ∀ (A : Option Addr) (n c : Nat) (xs : List Int) (g : Int) (w : World), Rd w (lo w.heap.size) A n xs → n ≤ 9223372036854775807 → P xs →
  Calls Try.prog h #[.slice A n c, .int .i64 g] w fun e w' => e = .returned (.bool (xs.contains g)) ∧ ∃ d, w' = w.drewN d
theorem has_contains : HasOK 27 fun _ => True := ⟨fun _ _ => by kernel_rfl, fun A n c xs g w h hn _ => (contains_c A n c xs g w h hn).mono fun _ _ ⟨he, hw⟩ => ⟨he, 0, hw.symm⟩⟩

def natI (l : List Nat) : List Int := l.map fun (n : Nat) => (n : Int)
theorem natI_at {l : List Nat} {i p : Nat} (h : l[i]? = some p) : (natI l)[i]? = some (p : Int) := by unfold natI; rw [List.getElem?_map, h]; rfl
theorem natI_len (l : List Nat) : (natI l).length = l.length := by simp [natI]
theorem natI_take (l : List Nat) (k : Nat) : natI (l.take k) = (natI l).take k := by simp [natI, List.map_take]
theorem natI_drop (l : List Nat) (k : Nat) : natI (l.drop k) = (natI l).drop k := by simp [natI, List.map_drop]

theorem inSets_cons (run : List Itm) (s : List Int) (ss : List (List Int)) (p : Nat) (ps : List Nat) : inSets run (s :: ss) (p :: ps) = (s.contains (gAt run p) && inSets run ss ps) := rfl
theorem inSets_drop {run : List Itm} {sets : List (List Int)} {places : List Nat} {k : Nat} {s : List Int} {p : Nat} (hs : sets[k]? = some s) (hp : places[k]? = some p) :
    inSets run (sets.drop k) (places.drop k) = (s.contains (gAt run p) && inSets run (sets.drop (k + 1)) (places.drop (k + 1))) := by
  obtain ⟨h1, rfl⟩ := List.getElem?_eq_some_iff.1 hs
  obtain ⟨h2, rfl⟩ := List.getElem?_eq_some_iff.1 hp
  rw [List.drop_eq_getElem_cons h1, List.drop_eq_getElem_cons h2, inSets_cons]
theorem gAt_some {run : List Itm} {i : Nat} {it : Itm} (h : run[i]? = some it) : gAt run i = it.g := by simp [gAt, h]
theorem fAt_some {run : List Itm} {i : Nat} {it : Itm} (h : run[i]? = some it) : fAt run i = it.f := by simp [fAt, h]

set_option maxRecDepth 100000 in
set_option maxHeartbeats 1000000 in
theorem inSets_c (h : FuncId) (P : List Int → Prop) (hh : HasOK h P) (Bw Bm : Nat) (RA SA PA : Option Addr) (rn rc sn sc pn pc : Nat) (run : List Itm) (sets : List (List Int)) (places : List Nat) (w : World)
    (h9 : w.cell? ⟨Bw, 9, none⟩ = some (.slice RA rn rc)) (hI : RdI w (lo w.heap.size) RA rn run) (h2 : w.cell? ⟨Bm, 2, none⟩ = some (.func (.func h) #[] #[]))
    (hS : RdV w (lo w.heap.size) SA sn sets) (hP : Rd w (lo w.heap.size) PA pn (natI places)) (hl : sets.length ≤ places.length) (hp : ∀ p ∈ places, p < run.length) (hs : ∀ s ∈ sets, P s)
    (hrn : rn ≤ 9223372036854775807) (hsn : sn ≤ 9223372036854775807) (hpn : pn ≤ 9223372036854775807) (b : Bool) (hb : inSets run sets places = b) :
    Calls Try.prog 55 #[.pointer (some ⟨Bw, 0, none⟩), .pointer (some ⟨Bm, 0, none⟩), .slice SA sn sc, .slice PA pn pc] w fun e w' => e = .returned (.bool b) ∧ ∃ d, w' = w.drewN d := by
  have hcf := hh.1
  have HL := Lib.hid hl; have HP := Lib.hid hp; have HS := Lib.hid hs; have HB := Lib.hid hb; have HH := Lib.hid hh.2
  have L1 := Lib.hid hI.len; have L2 := Lib.hid hS.len; have L3 := Lib.hid hP.len
  clear hl hp hs hb hh
  go_enter Try.func55, Try.ntmps55
  go_wp2
  go_loopw [13] (fun i wr => ∃ k d : Nat, k ≤ sn ∧ i = .int .i64 k ∧ inSets run (sets.drop k) (places.drop k) = b ∧ wr = w.drewN d) (fun i _ => sn - (intOf i).toNat)
  case atStart => exact ⟨0, 0, by omega, rfl, HB.out, rfl⟩
  case round =>
    obtain ⟨k, d, hk, rfl, hbk, rfl⟩ := hrel
    have HBK := Lib.hid hbk; clear hbk
    by_cases hlt : k < sn
    · have hkp : k < places.length := by have := HL.out; have := L2.out; omega
      obtain ⟨b1, o1, rfl, _, hc1⟩ := hS.pos (by omega)
      obtain ⟨s, hsk⟩ := at_some sets k (by have := L2.out; omega)
      obtain ⟨cs, ⟨A, n, c, rfl, hA, hd⟩, hcc⟩ := hc1 k s hsk
      have g1 := hcc 0 _ rfl
      rw [Nat.mul_one, Nat.add_zero] at g1
      clear hc1 hcc
      obtain ⟨p, hpk⟩ := at_some places k hkp
      have hpr := HP.out p (List.mem_of_getElem? hpk)
      obtain ⟨b2, o2, rfl, _, hc2⟩ := hP.pos (by have := L3.out; rw [natI_len] at this; omega)
      obtain ⟨cs, rfl, hcc⟩ := hc2 k _ (natI_at hpk)
      have g2 := hcc 0 _ rfl
      rw [Nat.mul_one, Nat.add_zero] at g2
      clear hc2 hcc
      obtain ⟨it, hit⟩ := at_some run p hpr
      obtain ⟨b3, o3, rfl, _, hc3⟩ := hI.pos (by have := L1.out; omega)
      obtain ⟨cs, rfl, hcc⟩ := hc3 p it hit
      have g3 := hcc 0 _ rfl
      rw [Nat.add_zero] at g3
      clear hc3 hcc
      have hkz : (0 : Int) ≤ (k : Int) := by omega
      have hkn : (k : Int) < (sn : Int) := by omega
      have hkq : (k : Int) < (pn : Int) := by have := L3.out; rw [natI_len] at this; omega
      have hpz : (0 : Int) ≤ (p : Int) := by omega
      have hprn : (p : Int) < (rn : Int) := by have := L1.out; omega
      have hst := inSets_drop (run := run) hsk hpk
      rw [gAt_some hit] at hst
      have HST := Lib.hid hst
      have hC := fun (w0 : World) (h0 : Rd w0 (lo w0.heap.size) A n s) => HH.out A n c s it.g w0 h0 (by have := hd.1; have := hd.2; omega) (HS.out s (List.mem_of_getElem? hsk))
      have HC := Lib.hid hC
      have HRD := Lib.hid hA
      clear hst hsk hpk hit hC hA hd
      cases hv : s.contains it.g with
      | true =>
        rw [hv] at HST HC
        clear hv
        go_wp2
        go_quiet (((first | (with_reducible refine quiet_d (HC.out _ ?_)) | (with_reducible refine quiet_add_d (HC.out _ ?_))); exact HRD.out))
        go_wp2
        go_roundw
        case rel => exact ⟨k + 1, _, by omega, by go_num, by have := HST.out; rw [HBK.out] at this; simpa using this.symm, rfl⟩
        case measure => simp [intOf]; omega
      | false =>
        rw [hv] at HST HC
        clear hv
        go_wp2
        go_quiet (((first | (with_reducible refine quiet_d (HC.out _ ?_)) | (with_reducible refine quiet_add_d (HC.out _ ?_))); exact HRD.out))
        go_wp2
        go_ret
        exact ⟨ret_bool (by have := HST.out; rw [HBK.out] at this; simpa using this.symm), drN _ _ _⟩
    · go_wp2
      go_ret
      refine ⟨ret_bool ?_, _, rfl⟩
      have := HBK.out
      rw [List.drop_eq_nil_of_le (by have := L2.out; omega)] at this
      exact this

end Go.Proofs.Ytkoocipagndclaa
