/- Walks: begin. -/
import Derived.Test.YtbjcbcdccekbkaaGreatA4
import Derived.Laws.CopyRow
import Derived.Laws.MakeOwn
namespace Go.Proofs.YtbjcbcdccekbkaaGreat
open Go.RowKit Go.Shelf

/-- copy, of elements of k cells, onto a row that is known whole. -/
theorem run_copyK {P : Program} (w : World) (dT sT ty elem : TypeId) (g k dLen dCap : Nat) (a : Addr) (sLen sCap : Nat) (cur : Array Value) (t : TypeId) (cs : List Value)
    (hu : P.underlying dT = some (.slice elem)) (hs : (P.info? elem).map (·.size) = some k)
    (hg : w.heap[g]? = some (.cells cur t (0, 0))) (hn : cs.length = Nat.min sLen dLen * k)
    (hsrc : ∀ j v, cs[j]? = some v → w.cell? (a.add j) = some v) (hfit : cs.length ≤ cur.size) (h1 : ∀ v ∈ cs, v.oneCell' = true) :
    (Builtin.copy_ #[dT, sT] ty #[.slice (some ⟨g, 0, none⟩) dLen dCap, .slice (some a) sLen sCap]).run P w =
      .ok (goInt (Nat.min sLen dLen)) (w.setRow g (cs ++ cur.toList.drop cs.length).toArray) := by
  have hl := run_loadCells_list (P := P) w a cs hsrc
  have hst := run_storeCells_at P g 0 t cs 0 cur w hg (by simpa using hfit) h1
  simp only [Nat.zero_add, List.take_zero, List.nil_append] at hst
  cases hq : P.info? elem with
  | none => simp [hq] at hs
  | some i =>
    have hi : i.size = k := by simpa [hq] using hs
    simp [Builtin.copy_, run_underlying hu, Builtin.lenOf, Builtin.firstCells, sizeOf, typeInfo, hq, hi, ← hn, hl, hst]
theorem run_copyN {P : Program} (w : World) (dT sT ty elem : TypeId) (k : Nat) (d a : Option Addr) (dCap sCap : Nat)
    (hu : P.underlying dT = some (.slice elem)) (hs : (P.info? elem).map (·.size) = some k) :
    (Builtin.copy_ #[dT, sT] ty #[.slice d 0 dCap, .slice a 0 sCap]).run P w = .ok (goInt 0) w := by
  cases hq : P.info? elem with
  | none => simp [hq] at hs
  | some i =>
    cases d <;> cases a <;> simp [Builtin.copy_, run_underlying hu, Builtin.lenOf, Builtin.firstCells, sizeOf, typeInfo, hq, storeCells, loadCells, loadCellsFrom]
/-- 'copy(d, s)' of items, d a row of as many zero items. -/
theorem cpI (ty : TypeId) (w : World) (base g n dc : Nat) (A : Option Addr) (c : Nat) (cs : List Value) (xs : List Itm)
    (hown : Ow 57 6 w base (some ⟨g, 0, none⟩) n dc cs) (hx : RdI w (lo w.heap.size) A n xs) :
    ∃ w', (Builtin.copy_ #[32, 32] ty #[.slice (some ⟨g, 0, none⟩) n dc, .slice A n c]).run Tryz.prog w = .ok (goInt n) w' ∧ Ow 57 6 w' base (some ⟨g, 0, none⟩) n dc (itc xs) ∧ w.grownBy w' (some g) := by
  have hl := hx.len
  have hcl := hown.len
  have hu : Tryz.prog.underlying 32 = some (.slice 57) := Tryz.underlying32
  have hsz : (Tryz.prog.info? 57).map (·.size) = some 6 := by kernel_rfl
  by_cases h0 : n = 0
  · subst h0
    have hrun := run_copyN (P := Tryz.prog) w 32 32 ty 57 6 (some ⟨g, 0, none⟩) A dc c hu hsz
    have e1 : xs = [] := List.eq_nil_of_length_eq_zero hl
    have e2 : cs = [] := List.eq_nil_of_length_eq_zero (by omega)
    subst e1; subst e2
    exact ⟨w, hrun, hown, World.grownBy.refl w _⟩
  · obtain ⟨b, o2, rfl, _, _⟩ := hx.pos (by omega)
    obtain ⟨b', o', e, hsrc⟩ := news_itc hx (by omega)
    injection e with e; injection e with e1 e2
    subst e1; subst e2
    have hh := hown
    rcases hown.2 with ⟨e, _⟩ | ⟨g', cap, cur, e, hgb, hcell, hnc, hm, hsz1, hsz2⟩
    · injection e with e; cases e
    · injection e with e _ e3
      injection e with e
      injection e with e
      subst e
      have hlen : (itc xs).length = n * 6 := by rw [itc_len, hl]
      have hrun := run_copyK (P := Tryz.prog) w 32 32 ty 57 g 6 n dc ⟨b, o2, none⟩ n c cur 57 (itc xs) hu hsz hcell (by rw [hlen, show Nat.min n n = n from Nat.min_self n]) (fun j v hv => by
        have := hsrc j v hv
        rw [← this]
        unfold Addr.add
        split
        · rename_i h0; subst h0; rfl
        · rfl) (by rw [hlen]; subst e3; omega) (itc_one xs)
      rw [show Nat.min n n = n from Nat.min_self n] at hrun
      have ho2 : Ow 57 6 (w.setRow g (itc xs ++ cur.toList.drop (itc xs).length).toArray) base (some ⟨g, 0, none⟩) n dc (itc xs) := ⟨hlen, .inr ⟨g, cap, _, by rw [e3], hgb, setRow_heap w g cur _ 57 (0, 0) hcell, hnc, hm, by simp [hlen, hsz1]; omega, by simp [hlen]⟩⟩
      exact ⟨_, hrun, ho2, ⟨rfl, rfl, rfl, by simp [World.setRow], fun b hb hne => setRow_other w g b _ (fun e => hne (by rw [e]))⟩⟩

/-- The kind of a lookup, and whether it passes over marks. -/
def kiOf (F : Fnt) (n : Int) : Int × Bool := match lkAt F n with | some lk => (lk.kind, lk.ign) | none => (0, false)
theorem mkI (rn : Nat) (hrn : rn ≤ 1000000) : ∃ mc : Array Value, (∀ w0 : World, (Instr.makeSlice 32 (.int .i64 (rn : Int)) (.int .i64 (rn : Int))).run Tryz.prog w0 = .ok (.slice (some ⟨w0.heap.size, 0, none⟩) rn rn) (w0.alloc (.cells mc 57))) ∧ mc.size = rn * 6 := by
  obtain ⟨i0, hi, hz0, hz1, hz2⟩ := info_parts elt_item.hi
  refine ⟨madeCells (Value.agg #[.int .i64 0, .int .i64 0, .int .i64 0, .int .i64 0, .int .i64 0, .int .i64 0]).cells (rn * 6), fun w0 => ?_, by simp [size_madeCells]⟩
  have h := run_makeSlice (P := Tryz.prog) w0 32 57 i0 _ Tryz.underlying32 hi hz0 .i64 .i64 (rn : Int) (rn : Int) (by omega) (Int.le_refl _) (by rw [hz1, Int.toNat_natCast]; omega) (by rw [hz2]; omega) (by omega)
  rw [Int.toNat_natCast, hz1] at h
  exact h

theorem ps_new2 {w W0 : World} {f : FV} {mc : Array Value} {rn : Nat} {lookup : Int} (kf : Bk W0 w.heap.size 31 f.cells) (bw : Below w.heap.size w W0) (hmc : mc.size = rn * 6) (hrn : rn ≤ 1000000) :
    Ow 57 6 ((W0.alloc (.cells mc 57)).alloc (.cells (plC f 0 false none 0 0 lookup (some ⟨W0.heap.size, 0, none⟩) rn rn) 53)).drew w.heap.size (some ⟨W0.heap.size, 0, none⟩) rn rn mc.toList ∧
    Bk ((W0.alloc (.cells mc 57)).alloc (.cells (plC f 0 false none 0 0 lookup (some ⟨W0.heap.size, 0, none⟩) rn rn) 53)).drew (W0.heap.size + 1) 53 (plC f 0 false none 0 0 lookup (some ⟨W0.heap.size, 0, none⟩) rn rn) ∧
    Bk ((W0.alloc (.cells mc 57)).alloc (.cells (plC f 0 false none 0 0 lookup (some ⟨W0.heap.size, 0, none⟩) rn rn) 53)).drew w.heap.size 31 f.cells ∧
    Below w.heap.size w ((W0.alloc (.cells mc 57)).alloc (.cells (plC f 0 false none 0 0 lookup (some ⟨W0.heap.size, 0, none⟩) rn rn) 53)).drew := by
  have s1 := bw.size
  have o1 : Ow 57 6 (W0.alloc (.cells mc 57)) w.heap.size (some ⟨W0.heap.size, 0, none⟩) rn rn mc.toList := ⟨by simpa using hmc, .inr ⟨W0.heap.size, rn, mc, rfl, s1, heap_alloc_new W0 _, Nat.le_refl _, by unfold maxLen; omega, hmc, List.take_of_length_le (by simp [hmc])⟩⟩
  have k1 := Bk.new (W0.alloc (.cells mc 57)) 53 (plC f 0 false none 0 0 lookup (some ⟨W0.heap.size, 0, none⟩) rn rn)
  rw [World.size_alloc] at k1
  refine ⟨o1.alloc _, k1, (kf.alloc _).alloc _, below_drew ((bw.alloc s1 _).alloc (by simp; omega) _)⟩

def BgPost (f : FV) (F : Fnt) (lookup : Int) (rn : Nat) (run : List Itm) (w : World) (e : Ending) (w' : World) : Prop :=
  ∃ Bp LA ll lc A c, e = .returned (.pointer (some ⟨Bp, 0, none⟩)) ∧ PS w.heap.size w' Bp f F (kiOf F lookup).1 (kiOf F lookup).2 LA ll lc lookup A rn c run ∧ Below w.heap.size w w'
set_option maxRecDepth 100000 in
set_option maxHeartbeats 4000000 in
theorem begin_c (f : FV) (F : Fnt) (lookup : Int) (RA : Option Addr) (rn rc : Nat) (run : List Itm) (w : World) (hf : IsF w (lo w.heap.size) f F) (hI : RdI w (lo w.heap.size) RA rn run) (hrn : rn ≤ 1000000) :
    Calls Tryz.prog 10 #[.agg f.cells, .int .i64 lookup, .slice RA rn rc] w (BgPost f F lookup rn run w) := by
  obtain ⟨mc, hmk, hmc⟩ := mkI rn hrn
  have HMC := Lib.hid hmc
  unfold FV.cells
  go_enter Tryz.func10, Tryz.ntmps10
  go_wp2
  generalize hW0 : w.alloc (.cells #[.int .i64 f.u0, .slice f.ga f.gn f.gc, .slice f.ca f.cn f.cc, .slice f.la f.ln f.lc, .slice f.a4 f.n4 f.c4, .slice f.a5 f.n5 f.c5, .slice f.a6 f.n6 f.c6, .slice f.a7 f.n7 f.c7, .slice f.a8 f.n8 f.c8] 31) = W0
  have kf : Bk W0 w.heap.size 31 f.cells := by rw [← hW0]; exact Bk.new _ _ _
  have bw : Below w.heap.size w W0 := by rw [← hW0]; exact (Below.refl _ _).alloc (Nat.le_refl _) _
  have hI0 := hI.call bw
  have y0 : W0.cell? ⟨w.heap.size, 0, none⟩ = some (.int .i64 f.u0) := by have := kf.cell 0; simpa using this
  have y1 : W0.cell? ⟨w.heap.size, 1, none⟩ = some (.slice f.ga f.gn f.gc) := by have := kf.cell 1; simpa using this
  have y2 : W0.cell? ⟨w.heap.size, 2, none⟩ = some (.slice f.ca f.cn f.cc) := by have := kf.cell 2; simpa using this
  have y3 : W0.cell? ⟨w.heap.size, 3, none⟩ = some (.slice f.la f.ln f.lc) := by have := kf.cell 3; simpa using this
  have y4 : W0.cell? ⟨w.heap.size, 4, none⟩ = some (.slice f.a4 f.n4 f.c4) := by have := kf.cell 4; simpa using this
  have y5 : W0.cell? ⟨w.heap.size, 5, none⟩ = some (.slice f.a5 f.n5 f.c5) := by have := kf.cell 5; simpa using this
  have y6 : W0.cell? ⟨w.heap.size, 6, none⟩ = some (.slice f.a6 f.n6 f.c6) := by have := kf.cell 6; simpa using this
  have y7 : W0.cell? ⟨w.heap.size, 7, none⟩ = some (.slice f.a7 f.n7 f.c7) := by have := kf.cell 7; simpa using this
  have y8 : W0.cell? ⟨w.heap.size, 8, none⟩ = some (.slice f.a8 f.n8 f.c8) := by have := kf.cell 8; simpa using this
  have hlt0 : w.heap.size < W0.heap.size := kf.lt
  clear hW0
  go_region
  obtain ⟨o2, k2, kf2, b2⟩ := ps_new2 (lookup := lookup) kf bw HMC.out hrn
  have hI2 : RdI (((W0.alloc (.cells mc 57)).alloc (.cells (plC f 0 false none 0 0 lookup (some ⟨W0.heap.size, 0, none⟩) rn rn) 53)).drew) (lo (((W0.alloc (.cells mc 57)).alloc (.cells (plC f 0 false none 0 0 lookup (some ⟨W0.heap.size, 0, none⟩) rn rn) 53)).drew).heap.size) RA rn run := hI.call b2
  clear y0 y1 y2 y3 y4 y5 y6 y7 y8 kf bw hI0 hmk HMC hlt0
  generalize ((W0.alloc (.cells mc 57)).alloc (.cells #[.int .i64 f.u0, .slice f.ga f.gn f.gc, .slice f.ca f.cn f.cc, .slice f.la f.ln f.lc, .slice f.a4 f.n4 f.c4, .slice f.a5 f.n5 f.c5, .slice f.a6 f.n6 f.c6, .slice f.a7 f.n7 f.c7, .slice f.a8 f.n8 f.c8, .int .i64 0, .bool false, .slice none 0 0, .int .i64 lookup, .slice (some ⟨W0.heap.size, 0, none⟩) rn rn] 53)).drew = W2 at *
  generalize W0.heap.size = g at *
  have c13 : W2.cell? ⟨g + 1, 13, none⟩ = some (.slice (some ⟨g, 0, none⟩) rn rn) := by have := k2.cell 13; simpa using this
  obtain ⟨w3, hcp, o3, hg3⟩ := cpI 3 W2 w.heap.size g rn rn RA rc _ run o2 hI2
  have hgW := (o2.lt g 0 none rfl)
  have b3 : Below w.heap.size w w3 := b2.grown hg3 b2.size (fun j e => by have e := Option.some.inj e; omega)
  have k3 : Bk w3 (g + 1) 53 (plC f 0 false none 0 0 lookup (some ⟨g, 0, none⟩) rn rn) := k2.grown hg3 (fun e => by have e := Option.some.inj e; omega)
  have kf3 : Bk w3 w.heap.size 31 f.cells := kf2.grown hg3 (fun e => by
    have e := Option.some.inj e
    have hh := kf2
    obtain ⟨_, _, _, cur, h2⟩ := o2.blk g rfl
    unfold Bk at hh; rw [e, h2] at hh; injection hh with hh; injection hh with _ h3; revert h3; decide)
  have hs : PS w.heap.size w3 (g + 1) f F 0 false none 0 0 lookup (some ⟨g, 0, none⟩) rn rn run := ⟨b3.size, by omega, k3, hf.mono (fun _ h => h) (kept_below b3), o3⟩
  have y3 : w3.cell? ⟨w.heap.size, 3, none⟩ = some (.slice f.la f.ln f.lc) := by have := kf3.cell 3; simpa using this
  have hln := hf.2.1.len
  have hld := hf.2.2.2
  have hlnM : f.ln ≤ 9223372036854775807 := Nat.le_trans hld.1 hld.2
  clear o2 k2 kf2 b2 hI2 hg3 o3 kf3 hI
  by_cases h0 : lookup < 0
  · have e0 : kiOf F lookup = (0, false) := by unfold kiOf lkAt; rw [if_pos h0]
    have E0 := Lib.hid e0
    have t0 : decide (0 ≤ lookup) = false := by simp; omega
    clear e0 hln hf k3
    go_wp2
    go_ret
    refine ⟨_, _, _, _, _, _, rfl, by rw [E0.out]; exact hs, b3⟩
  · have t0 : decide (0 ≤ lookup) = true := by simp; omega
    by_cases h1 : (f.ln : Int) ≤ lookup
    · have e0 : kiOf F lookup = (0, false) := by unfold kiOf lkAt; rw [if_neg h0, List.getElem?_eq_none (by omega)]
      have E0 := Lib.hid e0
      have t1 : decide (lookup < (f.ln : Int)) = false := by simp; omega
      clear e0 hln hf k3
      go_wp2
      go_ret
      refine ⟨_, _, _, _, _, _, rfl, by rw [E0.out]; exact hs, b3⟩
    · obtain ⟨k, rfl⟩ : ∃ k : Nat, lookup = k := ⟨lookup.toNat, by omega⟩
      obtain ⟨lk, hlk⟩ := at_some F.lks k (by omega)
      have e0 : kiOf F (k : Int) = (lk.kind, lk.ign) := by unfold kiOf lkAt; rw [if_neg h0, Int.toNat_natCast, hlk]
      have E0 := Lib.hid e0
      obtain ⟨b, o, hla2, hb0, hc⟩ := hf.2.1.pos (by omega)
      obtain ⟨cs, ⟨A, n, c, rfl, hR, hd⟩, hcc⟩ := hc k lk hlk
      have g0 := cell_call (hcc 0 _ rfl) b3
      have g1 := cell_call (hcc 1 _ rfl) b3
      have g2 := cell_call (hcc 2 _ rfl) b3
      rw [Nat.add_zero] at g0
      rw [hla2] at y3
      have kz : (0 : Int) ≤ (k : Int) := by omega
      have kn : (k : Int) < (f.ln : Int) := by omega
      have p9 := hs.c9
      have p10 := hs.c10
      have p11 : w3.cell? ⟨g + 1, 11, none⟩ = some (.slice none 0 0) := by have := k3.cell 11; simpa using this
      have fz := fun j => k3.frozen j
      have HS := Lib.hid hs; have HF := Lib.hid hf; have K3 := Lib.hid k3
      clear e0 hln hf hlk hc hcc hR hd hs k3
      go_wp2
      go_ret
      have hgB : w.heap.size ≤ g + 1 := HS.out.lp
      have b4 : Below w.heap.size w (((w3.setCell ⟨g + 1, 9, none⟩ (.int .i64 lk.kind)).setCell ⟨g + 1, 10, none⟩ (.bool lk.ign)).setCell ⟨g + 1, 11, none⟩ (.slice A n c)) := ((b3.setCell (p := ⟨g + 1, 9, none⟩) hgB _).setCell (p := ⟨g + 1, 10, none⟩) hgB _).setCell (p := ⟨g + 1, 11, none⟩) hgB _
      have k4 := ((K3.out.set_ 9 (.int .i64 lk.kind)).set_ 10 (.bool lk.ign)).set_ 11 (.slice A n c)
      refine ⟨g + 1, A, n, c, some ⟨g, 0, none⟩, rn, rfl, ?_, b4⟩
      rw [E0.out]
      refine ⟨by have := HS.out.hB; simpa using this, HS.out.lp, k4, HF.out.mono (fun _ h => h) (kept_below b4), ?_⟩
      have hne : ∀ q, ∀ b, some (⟨g, 0, none⟩ : Addr) = some ⟨b, 0, none⟩ → b ≠ (⟨g + 1, q, none⟩ : Addr).block := fun q b e => by
        have e := Option.some.inj e
        injection e with e
        show b ≠ g + 1
        omega
      exact ((HS.out.own.setOther (hne 9) _).setOther (hne 10) _).setOther (hne 11) _

end Go.Proofs.YtbjcbcdccekbkaaGreat
