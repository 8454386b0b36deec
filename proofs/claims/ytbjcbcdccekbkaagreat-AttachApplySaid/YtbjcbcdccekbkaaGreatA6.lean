/- Walks: hosts, and its iterator. -/
import Derived.Test.YtbjcbcdccekbkaaGreatA5
namespace Go.Proofs.YtbjcbcdccekbkaaGreat
open Go.RowKit Go.Shelf
attribute [local go_sem] Oper.semAt_some

theorem mvLookIn {F : Fence} {d : Nat} {ops : Array Oper} {rest : List Oper} {o : Oper} {a : Act} {Q : Exit → Act → World → Prop} (hgd : o.guard = none) {T E : TypeId} (m x : Operand) (ho : o.op = Op.lookup T m x true) (hT : Tryz.prog.underlying T = some (.map 3 E)) (z : Value) (hz : ∀ w, (zeroValue E).run Tryz.prog w = .ok z w)
    (w : World) (b : Nat) (f : Int → Option Value) (k : Int) (hm : a.eval m = .map (some b)) (hx : a.eval x = .int .i64 k) (h : MapV w b f)
    (hK : wpListIn F d Tryz.prog ops Q rest (a.put o.dst (.tuple #[(f k).getD z, .bool (f k).isSome])) w) : wpListIn F d Tryz.prog ops Q (o :: rest) a w := by
  have hr := run_lookV (P := Tryz.prog) w T 3 E hT Tryz.underlying3 z hz b f k h
  refine wpListIn_plain hgd fun K hK' => ?_
  unfold Oper.wpIn
  refine ⟨?_, ?_⟩
  · simp [Oper.about, ho]
  · rw [Oper.semAt_plain F _ _ (by rw [ho]; intro c hc'; cases hc')]
    simp [execOp, ho, hm, hx, hr, Result.andThen]
    exact hK' _ _ hK

theorem hosts_c (Bp bm : Nat) (i : Int) (w : World) :
    Calls Tryz.prog 40 #[.pointer (some ⟨Bp, 0, none⟩), .int .i64 i, .map (some bm)] w fun e w' =>
      e = .returned (.func (.func 48) #[] #[.pointer (some ⟨w.heap.size, 0, none⟩), .pointer (some ⟨w.heap.size + 1, 0, none⟩), .pointer (some ⟨w.heap.size + 1 + 1, 0, none⟩)]) ∧
      w' = ((w.alloc (.cells #[.pointer (some ⟨Bp, 0, none⟩)] 47)).alloc (.cells #[.int .i64 i] 3)).alloc (.cells #[.map (some bm)] 71) := by
  go_enter Tryz.func40, Tryz.ntmps40
  go_wp2
  go_ret
  exact ⟨rfl, rfl⟩

theorem hostsL_yes {l : List Anc} {j : Nat} {a : Anc} {bs : Int → Option Bas} {b : Bas} (h : l[j]? = some a) (hk : a.k = 2) (hb : bs a.c = some b) : hostsL (l.drop j) bs = (a, b) :: hostsL (l.drop (j + 1)) bs := by
  obtain ⟨hl, rfl⟩ := List.getElem?_eq_some_iff.1 h
  rw [List.drop_eq_getElem_cons hl]
  unfold hostsL
  rw [List.filterMap_cons_some]
  rw [if_pos hk, hb]; rfl
theorem hostsL_no {l : List Anc} {j : Nat} {a : Anc} {bs : Int → Option Bas} (h : l[j]? = some a) (hk : a.k ≠ 2 ∨ bs a.c = none) : hostsL (l.drop j) bs = hostsL (l.drop (j + 1)) bs := by
  obtain ⟨hl, rfl⟩ := List.getElem?_eq_some_iff.1 h
  rw [List.drop_eq_getElem_cons hl]
  unfold hostsL
  rw [List.filterMap_cons_none]
  rcases hk with hk | hk
  · rw [if_neg hk]
  · rw [hk]; split <;> rfl
abbrev ancA (a : Anc) : Value := .agg #[.int .i64 a.k, .int .i64 a.c, .int .i64 a.x, .int .i64 a.y]

set_option maxRecDepth 100000 in
set_option maxHeartbeats 4000000 in
theorem hosts1_stops (m B B1 B2 B3 Bp bm : Nat) (f : FV) (F : Fnt) (kd : Int) (ign : Bool) (LA : Option Addr) (ll lc : Nat) (num : Int) (RA : Option Addr) (rn rc : Nat) (run : List Itm) (i : Nat) (bs : Int → Option Bas) (S : Nat → Prop) (w : World) (hm : 2 ≤ m) (hs : PS B w Bp f F kd ign LA ll lc num RA rn rc run) (hmb : MapB w bm bs) (hi : i < run.length) (hrn : rn ≤ 1000000)
    (c1 : w.cell? ⟨B1, 0, none⟩ = some (.pointer (some ⟨Bp, 0, none⟩))) (c2 : w.cell? ⟨B2, 0, none⟩ = some (.int .i64 (i : Int))) (c3 : w.cell? ⟨B3, 0, none⟩ = some (.map (some bm)))
    (hSl : ∀ b, S b → b < w.heap.size) (hSB : ∀ b, b < B → S b) (hSm : S bm) (hS3 : S B3) :
    SeqStopsK Fence.wide m Tryz.prog 48 #[.pointer (some ⟨B1, 0, none⟩), .pointer (some ⟨B2, 0, none⟩), .pointer (some ⟨B3, 0, none⟩)] (fun (x : Anc × Bas) => #[ancA x.1, basV x.2]) (Kept S)
      (fun l => l = hostsL (ancOf F (gAt run i)) bs) (fun _ => True) ((ancOf F (gAt run i)).length + 1) w := by
  intro l J Jx W hbW hJ hJx hY h0
  have HJ := Lib.hid hJ; clear hJ hJx
  have hs0 := hs.call hbW
  have d1 := cell_call c1 hbW
  have d2 := cell_call c2 hbW
  have HA := Lib.hid (panchors_c B Bp f F kd ign LA ll lc num RA rn rc run i W hs0 hi (by omega))
  have kW : Kept S w W := (kept_below hbW).sub hSl
  have HSL := Lib.hid hSl; have HSB := Lib.hid hSB
  clear hSl hSB
  obtain ⟨anc, han⟩ : ∃ l, l = ancOf F (gAt run i) := ⟨_, rfl⟩
  rw [← han] at HA hY ⊢
  clear han hs hs0 c1 c2
  refine callsIn_of_wp Tryz.func48 rfl trivial ?_ rfl
  simp only [Tryz.ntmps48, List.size_toArray, List.length_cons, List.length_nil, Nat.reduceAdd, Nat.reduceSub, Array.replicate_succ, Array.replicate_zero, List.push_toArray, List.append_toArray, List.nil_append, List.cons_append]
  have HY := Lib.hid hY; clear hY
  have hFw : ∀ k, Fence.wide.fn k := fun _ => trivial
  gi_wp2_with fail
  refine ⟨fun _ => by omega, (liftN HA.out).mono ?_⟩
  rintro e w1 ⟨A, n, c, rfl, hA, hd, rfl⟩
  have hnM : n ≤ 9223372036854775807 := Nat.le_trans hd.1 hd.2
  have HL := Lib.hid hA.len
  have HMB := Lib.hid hmb
  clear hmb hbW
  gi_wp2
  gi_loopw [13] (fun s wr => ∃ (j : Nat) (pre : List (Anc × Bas)), j ≤ n ∧ s = .int .i64 j ∧ hostsL anc bs = pre ++ hostsL (anc.drop j) bs ∧ pre.length ≤ j ∧ J pre wr ∧ Kept S w wr ) (fun s _ => n - (intOf s).toNat)
  case atStart => exact ⟨0, [], by omega, rfl, rfl, by simp, h0, kW⟩
  case round =>
    obtain ⟨j, pre, hj, rfl, hgr, hpl, hJs, hkp⟩ := hrel
    have HG := Lib.hid hgr; clear hgr
    have c3r : wr.cell? ⟨B3, 0, none⟩ = some (.map (some bm)) := (hkp.cell (p := ⟨B3, 0, none⟩) hS3).trans c3
    have l3r : B3 < wr.heap.size := cell_lt c3r
    have hmr : MapB wr bm bs := HMB.out.keep (hkp bm hSm)
    by_cases hlt : j < n
    · obtain ⟨a, haj⟩ := at_some anc j (by have := HL.out; omega)
      obtain ⟨b2, o2, rfl, hb2, hc2⟩ := hA.pos (by omega)
      obtain ⟨cs, rfl, hcc⟩ := hc2 j a haj
      have up : ∀ {q : Nat} {v : Value}, W.cell? ⟨b2, q, none⟩ = some v → wr.cell? ⟨b2, q, none⟩ = some v := fun {q v} h => by
        rw [hkp.cell (p := ⟨b2, q, none⟩) (HSB.out b2 hb2), ← kW.cell (p := ⟨b2, q, none⟩) (HSB.out b2 hb2)]; exact h
      have g0 := up (hcc 0 _ rfl)
      have g1 := up (hcc 1 _ rfl)
      have g2 := up (hcc 2 _ rfl)
      have g3 := up (hcc 3 _ rfl)
      rw [Nat.add_zero] at g0
      have jz : (0 : Int) ≤ (j : Int) := by omega
      have jn : (j : Int) < (n : Int) := by omega
      have HAJ := Lib.hid haj
      clear hc2 hcc haj up
      have kal : ∀ (x : World) (ob : Obj), Kept S w x → Kept S w (x.alloc ob) := fun x ob hk b hb => (Below.heap_alloc x ob b (by
        have h1 := hk b hb
        have hl := HSL.out b hb
        rw [show w.heap[b]? = some w.heap[b] from Array.getElem?_eq_getElem hl] at h1
        exact (Array.getElem?_eq_some_iff.1 h1).1)).trans (hk b hb)
      have KAL := Lib.hid kal; clear kal
      by_cases hk : a.k = 2
      · have e1 : (a.k != 2) = false := by simp [hk]
        cases hcb : bs a.c with
        | none =>
          have q1 : ((bs a.c).map basV).getD (.agg #[.int .i64 0, .int .i64 0, .int .i64 0]) = .agg #[.int .i64 0, .int .i64 0, .int .i64 0] := by rw [hcb]; rfl
          have q2 : ((bs a.c).map basV).isSome = false := by rw [hcb]; rfl
          have Q1 := Lib.hid q1; have Q2 := Lib.hid q2
          have HN := Lib.hid (hostsL_no (bs := bs) HAJ.out (.inr hcb))
          rw [hk] at g0
          have hmr2 := hmr.keep (Below.heap_alloc wr (.cells #[.int .i64 2, .int .i64 a.c, .int .i64 a.x, .int .i64 a.y] 75) bm hmr.lt)
          clear q1 q2 hcb hk
          gi_wp2_with (refine mvLookIn (o := ⟨some 24, _, _, _, _, _⟩) rfl _ _ rfl Tryz.underlying71 (.agg #[.int .i64 0, .int .i64 0, .int .i64 0]) zeroBas _ bm _ a.c (by rfl) (by rfl) hmr2 ?_; rw [Q1.out, Q2.out])
          go_roundw
          case rel => exact ⟨j + 1, pre, by omega, by go_num, by rw [HG.out, HN.out], by omega, HJ.out _ _ _ none (HJ.out _ _ _ none hJs (World.grownBy_alloc _ _ _) (fun r e => by cases e)) (World.grownBy_alloc _ _ _) (fun r e => by cases e), KAL.out _ _ (KAL.out _ _ hkp)⟩
          case measure => simp [intOf]; omega
        | some b =>
          have q1 : ((bs a.c).map basV).getD (.agg #[.int .i64 0, .int .i64 0, .int .i64 0]) = .agg #[.int .i64 b.p, .int .i64 b.x, .int .i64 b.y] := by rw [hcb]; rfl
          have q2 : ((bs a.c).map basV).isSome = true := by rw [hcb]; rfl
          have Q1 := Lib.hid q1; have Q2 := Lib.hid q2
          have HN := Lib.hid (hostsL_yes (bs := bs) HAJ.out hk hcb)
          have hJ2 := HJ.out _ _ _ none (HJ.out _ _ _ none hJs (World.grownBy_alloc wr (.cells #[.int .i64 a.k, .int .i64 a.c, .int .i64 a.x, .int .i64 a.y] 75) none) (fun r e => by cases e)) (World.grownBy_alloc _ (.cells #[.int .i64 b.p, .int .i64 b.x, .int .i64 b.y] 90) none) (fun r e => by cases e)
          have hY2 := HY.out pre (a, b) _ hJ2 (by have := HL.out; omega)
          have kp2 := KAL.out _ (.cells #[.int .i64 b.p, .int .i64 b.x, .int .i64 b.y] 90) (KAL.out _ (.cells #[.int .i64 a.k, .int .i64 a.c, .int .i64 a.x, .int .i64 a.y] 75) hkp)
          dsimp only [ancA, basV] at hY2
          rw [hk] at hY2 kp2
          obtain ⟨fn, tmps, assign, body, hy, hRd⟩ := hY2
          have hRd2 := hRd.mono (R' := fun e W' => ∃ bb : Bool, e = .returned (.bool bb) ∧ ((bb = true ∧ J (pre ++ [(a, b)]) W' ∧ Kept S ((wr.alloc (.cells #[.int .i64 2, .int .i64 a.c, .int .i64 a.x, .int .i64 a.y] 75)).alloc (.cells #[.int .i64 b.p, .int .i64 b.x, .int .i64 b.y] 90)) W') ∨ (bb = false ∧ Jx (pre ++ [(a, b)]) W'))) (by
            rintro e W' (⟨he, h1, h2⟩ | ⟨he, h1⟩)
            · exact ⟨true, he, .inl ⟨rfl, h1, h2⟩⟩
            · exact ⟨false, he, .inr ⟨rfl, h1⟩⟩)
          have HRD := Lib.hid hRd2
          have hmr2 := hmr.keep (Below.heap_alloc wr (.cells #[.int .i64 2, .int .i64 a.c, .int .i64 a.x, .int .i64 a.y] 75) bm hmr.lt)
          rw [hk] at g0
          clear q1 q2 hcb hk hRd hRd2 hJ2
          gi_wp2_with (refine mvLookIn (o := ⟨some 24, _, _, _, _, _⟩) rfl _ _ rfl Tryz.underlying71 (.agg #[.int .i64 0, .int .i64 0, .int .i64 0]) zeroBas _ bm _ a.c (by rfl) (by rfl) hmr2 ?_; rw [Q1.out, Q2.out])
          refine ⟨fun _ => by omega, HRD.out.mono ?_⟩
          rintro e W3 ⟨bb, rfl, hPP⟩
          rcases hPP with ⟨rfl, hJ3, hk3⟩ | ⟨rfl, hJx3⟩
          · clear hy
            gi_wp2
            go_roundw
            case rel => exact ⟨j + 1, pre ++ [(a, b)], by omega, by go_num, by rw [HG.out, HN.out]; simp, by simp; omega, hJ3, kp2.trans hk3⟩
            case measure => simp [intOf]; omega
          · clear hy
            gi_wp2
            refine bodyPost_ret (results_none rfl _ _ _) rfl ?_
            exact ⟨⟨_, rfl⟩, .inr ⟨_, trivial, hJx3⟩⟩
      · have e1 : (a.k != 2) = true := by simp [hk]
        have HN := Lib.hid (hostsL_no (bs := bs) HAJ.out (.inl hk))
        gi_wp2
        go_roundw
        case rel => exact ⟨j + 1, pre, by omega, by go_num, by rw [HG.out, HN.out], by omega, HJ.out _ _ _ none hJs (World.grownBy_alloc _ _ _) (fun r e => by cases e), KAL.out _ _ hkp⟩
        case measure => simp [intOf]; omega
    · gi_wp2
      go_end0
      refine ⟨⟨_, rfl⟩, .inl ⟨pre, ?_, hJs⟩⟩
      rw [HG.out, List.drop_eq_nil_of_le (by have := HL.out; omega)]; simp [hostsL]

end Go.Proofs.YtbjcbcdccekbkaaGreat
