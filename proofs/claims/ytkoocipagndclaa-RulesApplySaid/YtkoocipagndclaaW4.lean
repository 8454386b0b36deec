/- Walks: matches. -/
import Derived.Test.YtkoocipagndclaaW3
namespace Go.Proofs.Ytkoocipagndclaa
open Go.RowKit

theorem Rd.drop {w : World} {S : Nat → Prop} {b o n : Nat} {xs : List Int} (h : Rd w S (some ⟨b, o, none⟩) n xs) (k : Nat) (hk : k ≤ n) : Rd w S (some ⟨b, o + k, none⟩) (n - k) (xs.drop k) := by
  refine ⟨by rw [List.length_drop, h.1], fun h0 => ?_⟩
  obtain ⟨b', o', e, hb, hc⟩ := h.2 (by omega)
  injection e with e; injection e with e1 e2; subst e1; subst e2
  refine ⟨b, o + k, rfl, hb, fun i x hx => ?_⟩
  rw [List.getElem?_drop] at hx
  obtain ⟨cs, h1, h2⟩ := hc _ _ hx
  refine ⟨cs, h1, fun j v hv => ?_⟩
  rw [← h2 j v hv]
  congr 2; omega
theorem Rd.alloc {w : World} {A : Option Addr} {n : Nat} {xs : List Int} (h : Rd w (lo w.heap.size) A n xs) (o : Obj) : Rd (w.alloc o) (lo (w.alloc o).heap.size) A n xs :=
  h.mono (fun b hb => by unfold lo at *; simp; omega) (fun b hb => Below.heap_alloc w o b hb)
theorem RdV.alloc {w : World} {A : Option Addr} {n : Nat} {xs : List (List Int)} (h : RdV w (lo w.heap.size) A n xs) (o : Obj) : RdV (w.alloc o) (lo (w.alloc o).heap.size) A n xs :=
  h.mono (fun b hb => by unfold lo at *; simp; omega) (fun b hb => Below.heap_alloc w o b hb)
theorem RdI.alloc {w : World} {A : Option Addr} {n : Nat} {xs : List Itm} (h : RdI w (lo w.heap.size) A n xs) (o : Obj) : RdI (w.alloc o) (lo (w.alloc o).heap.size) A n xs :=
  h.mono (fun b hb => by unfold lo at *; simp; omega) (fun b hb => Below.heap_alloc w o b hb)

theorem cell_lt {w : World} {p : Addr} {v : Value} (h : w.cell? p = some v) : p.block < w.heap.size := by
  unfold World.cell? at h
  rcases Nat.lt_or_ge p.block w.heap.size with hlt | hge
  · exact hlt
  · rw [Array.getElem?_eq_none hge] at h; simp at h
theorem cell_alloc {w : World} {p : Addr} {v : Value} (h : w.cell? p = some v) (o : Obj) : (w.alloc o).cell? p = some v := (World.cell?_alloc_lt w o p (cell_lt h)).trans h

set_option maxRecDepth 100000 in
set_option maxHeartbeats 2000000 in
theorem matches_c (h : FuncId) (P : List Int → Prop) (hh : HasOK h P) (Bw Bm : Nat) (RA FA BA : Option Addr) (rn rc fn fc bn bc : Nat) (run : List Itm) (r : Rul) (cs : List Value) (fore back : List Nat) (w : World)
    (h9 : w.cell? ⟨Bw, 9, none⟩ = some (.slice RA rn rc)) (hI : RdI w (lo w.heap.size) RA rn run) (h2 : w.cell? ⟨Bm, 2, none⟩ = some (.func (.func h) #[] #[]))
    (hr : ERul w (lo w.heap.size) cs r) (hF : Rd w (lo w.heap.size) FA fn (natI fore)) (hB : Rd w (lo w.heap.size) BA bn (natI back)) (hpf : ∀ p ∈ fore, p < run.length) (hpb : ∀ p ∈ back, p < run.length)
    (hs : (∀ s ∈ r.inn, P s) ∧ (∀ s ∈ r.ahead, P s) ∧ (∀ s ∈ r.back, P s)) (hrn : rn ≤ 9223372036854775807) (hfn : fn ≤ fc ∧ fc ≤ 9223372036854775807) (hbn : bn ≤ 9223372036854775807) (hsum : r.inn.length + r.ahead.length ≤ 9223372036854775807) :
    Calls Try.prog 40 #[.pointer (some ⟨Bw, 0, none⟩), .pointer (some ⟨Bm, 0, none⟩), .agg cs.toArray, .slice FA fn fc, .slice BA bn bc] w fun e w' => e = .returned (.bool (fits run r fore back)) ∧ Below w.heap.size w w' := by
  obtain ⟨A1, n1, c1, A2, n2, c2, A3, n3, c3, A4, n4, c4, A5, n5, c5, rfl, r1, r2, r3, _, _, d1, d2, d3, _⟩ := hr
  have l1 := r1.len
  have l2 := r2.len
  have l3 := r3.len
  have lf := hF.len
  have lb := hB.len
  rw [natI_len] at lf lb
  have hw := h9
  obtain ⟨o1, ho1⟩ : ∃ ob : Obj, ob = .cells #[.slice A1 n1 c1, .slice A2 n2 c2, .slice A3 n3 c3, .slice A4 n4 c4, .slice A5 n5 c5, .int .i64 r.x] 48 := ⟨_, rfl⟩
  by_cases e0 : n2 = 0
  · have hfalse : fits run r fore back = false := by
      unfold fits; simp [List.isEmpty_iff.2 (List.eq_nil_of_length_eq_zero (l2.trans e0))]
    rw [hfalse]
    subst e0
    clear hfalse l1 l2 l3 lf lb ho1
    go_enter Try.func40, Try.ntmps40
    go_wp2
    go_ret
    exact ⟨rfl, (Below.refl _ _).alloc (Nat.le_refl _) _⟩
  · have q0 : ((n2 : Int) == 0) = false := by simp; omega
    have q0' : (n2 == 0) = false := by simp; omega
    have hne : r.inn.isEmpty = false := by
      cases hin : r.inn with
      | nil => rw [hin] at l2; simp at l2; omega
      | cons _ _ => rfl
    by_cases e1 : fn < n2 + n3
    · have hfalse : fits run r fore back = false := by
        unfold fits; simp [show ¬ (r.inn.length + r.ahead.length ≤ fore.length) by omega]
      rw [hfalse]
      have q1 : (fn : Int) < (n2 : Int) + (n3 : Int) := by omega
      have q2 : (n2 : Int) + (n3 : Int) ≤ 9223372036854775807 := by omega
      clear hfalse l1 l2 l3 lf lb ho1 hne
      go_enter Try.func40, Try.ntmps40
      go_wp2
      go_ret
      exact ⟨rfl, (Below.refl _ _).alloc (Nat.le_refl _) _⟩
    · have q1 : decide ((fn : Int) < (n2 : Int) + (n3 : Int)) = false := by simp; omega
      have q2 : (n2 : Int) + (n3 : Int) ≤ 9223372036854775807 := by omega
      by_cases e2 : bn < n1
      · have hfalse : fits run r fore back = false := by
          unfold fits; simp [show ¬ (r.back.length ≤ back.length) by omega]
        rw [hfalse]
        clear hfalse l1 l2 l3 lf lb ho1 hne
        go_enter Try.func40, Try.ntmps40
        go_wp2
        go_ret
        exact ⟨rfl, (Below.refl _ _).alloc (Nat.le_refl _) _⟩
      · have q3 : decide ((bn : Int) < (n1 : Int)) = false := by simp; omega
        have q4 : decide (bn < n1) = false := by simp; omega
        have hfit : fits run r fore back = (inSets run r.inn fore && (inSets run r.ahead (fore.drop r.inn.length) && inSets run r.back back)) := by
          unfold fits; rw [hne]; simp [show r.inn.length + r.ahead.length ≤ fore.length by omega, show r.back.length ≤ back.length by omega]
        rw [hfit]
        obtain ⟨b, o, rfl, _, _⟩ := hF.pos (by omega)
        have HA := Lib.hid fun (v : Bool) (hv : inSets run r.inn fore = v) (d : Nat) => inSets_c h P hh Bw Bm RA A2 (some ⟨b, o, none⟩) rn rc n2 c2 fn fc run r.inn fore ((w.alloc o1).drewN d) (cell_alloc h9 o1) (hI.alloc o1) (cell_alloc h2 o1) (r2.alloc o1) (hF.alloc o1) (by omega) hpf hs.1 hrn (by have := d2.1; have := d2.2; omega) (by omega) v hv
        have hD := hF.drop n2 (by omega)
        rw [← natI_drop] at hD
        have HBB := Lib.hid fun (v : Bool) (hv : inSets run r.ahead (fore.drop n2) = v) (A : Option Addr) (cc : Nat) (hA : A = some ⟨b, o + n2, none⟩ ∨ fn - n2 = 0) (d : Nat) => inSets_c h P hh Bw Bm RA A3 A rn rc n3 c3 (fn - n2) cc run r.ahead (fore.drop n2) ((w.alloc o1).drewN d) (cell_alloc h9 o1) (hI.alloc o1) (cell_alloc h2 o1) (r3.alloc o1)
          (by
            rcases hA with rfl | h0
            · exact hD.alloc o1
            · rw [h0]
              have : fore.drop n2 = [] := List.drop_eq_nil_of_le (by omega)
              rw [this]
              exact SlE.nil) (by rw [List.length_drop]; omega) (fun p hp => hpf p (List.mem_of_mem_drop hp)) hs.2.1 hrn (by have := d3.1; have := d3.2; omega) (by omega) v hv
        have HCC := Lib.hid fun (v : Bool) (hv : inSets run r.back back = v) (d : Nat) => inSets_c h P hh Bw Bm RA A1 BA rn rc n1 c1 bn bc run r.back back ((w.alloc o1).drewN d) (cell_alloc h9 o1) (hI.alloc o1) (cell_alloc h2 o1) (r1.alloc o1) (hB.alloc o1) (by omega) hpb hs.2.2 hrn (by have := d1.1; have := d1.2; omega) hbn v hv
        rw [l2]
        subst ho1
        have z0 : (0 : Int) ≤ (n2 : Int) := by omega
        have z1 : (n2 : Int) ≤ (fn : Int) := by omega
        have z2 : (fn : Int) ≤ (fc : Int) := by omega
        generalize hva : inSets run r.inn fore = va at *
        generalize hvb : inSets run r.ahead (fore.drop n2) = vb at *
        generalize hvc : inSets run r.back back = vc at *
        have HVA := Lib.hid hva; have HVB := Lib.hid hvb; have HVC := Lib.hid hvc
        clear hva hvb hvc hfit l1 l2 l3 lf lb hne hD hF hB r1 r2 r3 h9 hI h2 hpf hpb hs hh
        cases va with
        | false =>
          go_enter Try.func40, Try.ntmps40
          go_wp2
          go_quiet ((with_reducible refine quiet_d (HA.out _ rfl _)))
          go_wp2
          go_ret
          exact ⟨rfl, below_drewN ((Below.refl _ _).alloc (Nat.le_refl _) _) _⟩
        | true =>
          by_cases ec : n2 = fc
          · subst ec
            have efn : fn = n2 := by omega
            subst efn
            clear z1 z2
            have zz : (fn : Int) ≤ (fn : Int) := by omega
            have hq := HBB.out vb rfl (some ⟨b, o, none⟩) 0 (.inr (by omega))
            rw [Nat.sub_self] at hq
            have HB2 := Lib.hid hq
            clear HBB hq
            cases vb with
            | false =>
              go_enter Try.func40, Try.ntmps40
              go_wp2
              go_quiet ((first | (with_reducible refine quiet_d (HA.out _ rfl _)) | (with_reducible refine quiet_d (HB2.out _))))
              go_wp2
              go_ret
              exact ⟨rfl, below_drewN ((Below.refl _ _).alloc (Nat.le_refl _) _) _⟩
            | true =>
              go_enter Try.func40, Try.ntmps40
              go_wp2
              go_quiet ((first | (with_reducible refine quiet_d (HA.out _ rfl _)) | (with_reducible refine quiet_d (HCC.out _ rfl _)) | (with_reducible refine quiet_d (HB2.out _))))
              go_wp2
              go_ret
              exact ⟨rfl, below_drewN ((Below.refl _ _).alloc (Nat.le_refl _) _) _⟩
          · have ec2 : n2 < fc := by omega
            have HB2 := Lib.hid (HBB.out vb rfl (some ⟨b, o + n2, none⟩) (fc - n2) (.inl rfl))
            clear HBB
            cases vb with
            | false =>
              go_enter Try.func40, Try.ntmps40
              go_wp2
              go_quiet ((first | (with_reducible refine quiet_d (HA.out _ rfl _)) | (with_reducible refine quiet_d (HB2.out _))))
              go_wp2
              go_ret
              exact ⟨rfl, below_drewN ((Below.refl _ _).alloc (Nat.le_refl _) _) _⟩
            | true =>
              go_enter Try.func40, Try.ntmps40
              go_wp2
              go_quiet ((first | (with_reducible refine quiet_d (HA.out _ rfl _)) | (with_reducible refine quiet_d (HCC.out _ rfl _)) | (with_reducible refine quiet_d (HB2.out _))))
              go_wp2
              go_ret
              exact ⟨rfl, below_drewN ((Below.refl _ _).alloc (Nat.le_refl _) _) _⟩

end Go.Proofs.Ytkoocipagndclaa
