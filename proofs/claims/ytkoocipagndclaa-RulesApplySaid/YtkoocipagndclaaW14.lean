/- The work's state; walks: matcher. -/
import Derived.Test.YtkoocipagndclaaW13
namespace Go.Proofs.Ytkoocipagndclaa
open Go.RowKit Go.Shelf

theorem zeroPM (w : World) : (zeroValue 62).run Try.prog w = .ok (.pointer none) w := by kernel_rfl
theorem mvLook {ops : Array Oper} {rest : List Oper} {o : Oper} {a : Act} {Q : Exit → Act → World → Prop} (hgd : o.guard = none) {T E : TypeId} (m x : Operand) (ho : o.op = Op.lookup T m x true) (hT : Try.prog.underlying T = some (.map 3 E)) (z : Value) (hz : ∀ w, (zeroValue E).run Try.prog w = .ok z w)
    (w : World) (b : Nat) (f : Int → Option Value) (k : Int) (hm : a.eval m = .map (some b)) (hx : a.eval x = .int .i64 k) (h : MapV w b f)
    (hK : wpList Try.prog ops Q rest (a.put o.dst (.tuple #[(f k).getD z, .bool (f k).isSome])) w) : wpList Try.prog ops Q (o :: rest) a w := by
  have hr := run_lookV (P := Try.prog) w T 3 E hT Try.underlying3 z hz b f k h
  refine wpList_plain hgd fun K hK' => ?_
  unfold Oper.wp
  simp [execOp, ho, hm, hx, hr, Result.andThen]
  exact hK' _ _ hK
theorem mvPut {ops : Array Oper} {rest : List Oper} {o : Oper} {a : Act} {Q : Exit → Act → World → Prop} (hgd : o.guard = none) {T E : TypeId} (m x v : Operand) (ho : o.op = Op.mapUpdate T m x v) (hT : Try.prog.underlying T = some (.map 3 E))
    (w : World) (b : Nat) (f : Int → Option Value) (k : Int) (u : Value) (hm : a.eval m = .map (some b)) (hx : a.eval x = .int .i64 k) (hv : a.eval v = u) (h : MapV w b f)
    (hK : ∀ w', MapV w' b (fun j => if j = k then some u else f j) → w.grownBy w' (some b) → wpList Try.prog ops Q rest (a.put o.dst undef) w') : wpList Try.prog ops Q (o :: rest) a w := by
  obtain ⟨w', hr, h1, h2⟩ := run_putV (P := Try.prog) w T 3 E hT Try.underlying3 b f k u h
  refine wpList_plain hgd fun K hK' => ?_
  unfold Oper.wp
  simp [execOp, ho, hm, hx, hv, hr, Result.andThen]
  exact hK' _ _ (hK w' h1 h2)

def srtLk (lk : Lk) : Lk := { kind := lk.kind, ign := lk.ign, rules := lk.rules.map srtR }
/-- The cells of a work. -/
abbrev wkC (f : FV) (RA : Option Addr) (rn rc : Nat) (m : Value) : Array Value := #[.int .i64 f.u0, .slice f.ga f.gn f.gc, .slice f.ca f.cn f.cc, .slice f.la f.ln f.lc, .slice f.a4 f.n4 f.c4, .slice f.a5 f.n5 f.c5, .slice f.a6 f.n6 f.c6, .slice f.a7 f.n7 f.c7, .slice f.a8 f.n8 f.c8, .slice RA rn rc, m]
/-- What the map of matchers holds. -/
def Mts (B : Nat) (W : World) (Bm : Nat) (F : Fnt) : Prop := ∃ g, MapV W Bm g ∧ ∀ (k : Int) (v : Value), g k = some v → ∃ m lk, v = .pointer (some ⟨m, 0, none⟩) ∧ lkAt F k = some lk ∧ Mt B W 58 m (srtLk lk)
/-- A work in the midst: from block B on all is its own. -/
structure WS (B : Nat) (W : World) (Bw Bm : Nat) (f : FV) (F : Fnt) (RA : Option Addr) (rn rc : Nat) (run : List Itm) : Prop where
  hB : B ≤ W.heap.size
  lw : B ≤ Bw
  lm : B ≤ Bm
  wk : Bk W Bw 60 (wkC f RA rn rc (.map (some Bm)))
  font : IsF W (lo B) f F
  mts : Mts B W Bm F
  own : Ow 51 6 W B RA rn rc (itc run)
def SmF (F : Fnt) : Prop := ∀ lk ∈ F.lks, lk.rules.length ≤ 1000000 ∧ ∀ r ∈ lk.rules, SmR r

theorem Mt.kept {B : Nat} {W W' : World} {h : FuncId} {m : Nat} {lk : Lk} (hm : Mt B W h m lk) (hk : Kept (SB B W) W W') : Mt B W' h m lk := by
  obtain ⟨A, n, c, fo, ba, h1, h2, h3⟩ := hm
  have hs : ∀ b, SB B W b → SB B W' b := fun b hb => by
    have hbl := hk b hb
    rcases hb with hb | ⟨cs, t, fr, hb, ht⟩
    · exact .inl hb
    · exact .inr ⟨cs, t, fr, hbl.trans hb, ht⟩
  exact ⟨A, n, c, fo, ba, h1.kept hk (.inr ⟨_, 86, _, h1, by decide, by decide⟩), h2.mono hs hk, h3⟩
theorem kept_map {B : Nat} {W W' : World} {Bm : Nat} {g : Int → Option Value} (hg : MapV W Bm g) (hB : B ≤ W.heap.size) (hBm : B ≤ Bm) (h : W.grownBy W' (some Bm)) : Kept (SB B W) W W' := fun b hb => h.block b (hb.lt hB) (fun e => by
  have e := Option.some.inj e
  subst e
  rcases hb with hb | ⟨cs, t, fr, hb, _⟩
  · omega
  · obtain ⟨es, c, h1, _⟩ := hg
    rw [hb] at h1; injection h1 with h1; cases h1)
theorem RdR.lsb {B : Nat} {w : World} {A : Option Addr} {n : Nat} {xs : List Rul} (h : RdR w (lo B) A n xs) : RdR w (SB B w) A n xs := h.mono (fun _ h => .inl h) (Kept.refl _ _)

theorem srtLk_sum {lk : Lk} (h : ∀ r ∈ lk.rules, SmR r) : (∀ r ∈ (srtLk lk).rules, r.inn.length + r.ahead.length ≤ 9223372036854775807) ∧ ∀ r ∈ (srtLk lk).rules, r.back.length ≤ 9223372036854775807 := by
  refine ⟨fun r hr => ?_, fun r hr => ?_⟩
  all_goals
    obtain ⟨q, hq, rfl⟩ := List.mem_map.1 hr
    obtain ⟨h1, h2, h3⟩ := h q hq
    simp only [srtR, List.length_map]
    omega

set_option maxRecDepth 100000 in
set_option maxHeartbeats 1000000 in
theorem matcher_c (B Bw Bm : Nat) (f : FV) (F : Fnt) (RA : Option Addr) (rn rc : Nat) (run : List Itm) (k : Nat) (lk : Lk) (W : World) (hs : WS B W Bw Bm f F RA rn rc run) (hlk : F.lks[k]? = some lk) (hF : SmF F) :
    Calls Try.prog 46 #[.pointer (some ⟨Bw, 0, none⟩), .int .i64 (k : Int)] W fun e W' => ∃ m, e = .returned (.pointer (some ⟨m, 0, none⟩)) ∧ Mt B W' 58 m (srtLk lk) ∧ WS B W' Bw Bm f F RA rn rc run ∧ Kept (SB B W) W W' ∧ Below B W W' := by
  obtain ⟨g, hg, hgm⟩ := hs.mts
  have hla : lkAt F (k : Int) = some lk := by unfold lkAt; rw [if_neg (by omega), Int.toNat_natCast]; exact hlk
  have c10 : W.cell? ⟨Bw, 10, none⟩ = some (.map (some Bm)) := by have := hs.wk.cell 10; simpa using this
  have c3 : W.cell? ⟨Bw, 3, none⟩ = some (.slice f.la f.ln f.lc) := by have := hs.wk.cell 3; simpa using this
  cases hgk : g (k : Int) with
  | some v =>
    obtain ⟨m, lk', rfl, h2, h3⟩ := hgm _ _ hgk
    rw [hla] at h2; injection h2 with h2; subst h2
    have e1 : (g (k : Int)).getD (.pointer none) = .pointer (some ⟨m, 0, none⟩) := by rw [hgk]; rfl
    have e2 : (g (k : Int)).isSome = true := by rw [hgk]; rfl
    have E1 := Lib.hid e1; have E2 := Lib.hid e2
    clear hgk hgm e1 e2 hla hlk
    go_enter Try.func46, Try.ntmps46
    go_wp2_with (at_lookup; refine mvLook rfl _ _ rfl Try.underlying58 (.pointer none) zeroPM _ Bm g (k : Int) (by rfl) (by rfl) hg ?_; rw [E1.out, E2.out])
    go_ret
    exact ⟨m, rfl, h3, hs, Kept.refl _ _, Below.refl _ _⟩
  | none =>
    have e1 : (g (k : Int)).getD (.pointer none) = .pointer none := by rw [hgk]; rfl
    have e2 : (g (k : Int)).isSome = false := by rw [hgk]; rfl
    have E1 := Lib.hid e1; have E2 := Lib.hid e2
    have HGM := Lib.hid hgm; have HLA := Lib.hid hla
    obtain ⟨_, hL, _, hld⟩ := hs.font
    have hll := hL.len
    have hk : k < f.ln := by have := (List.getElem?_eq_some_iff.1 hlk).1; omega
    obtain ⟨b, o, hla2, hb0, hc⟩ := hL.pos (by omega)
    obtain ⟨cs, ⟨A, n, c, rfl, hR, hd⟩, hcc⟩ := hc k lk hlk
    have g0 := hcc 0 _ rfl
    have g1 := hcc 1 _ rfl
    have g2 := hcc 2 _ rfl
    rw [Nat.add_zero] at g0
    rw [hla2] at c3
    have hlnM : f.ln ≤ 9223372036854775807 := Nat.le_trans hld.1 hld.2
    obtain ⟨sm1, sm2⟩ := hF lk (List.mem_of_getElem? hlk)
    have hRl := hR.len
    have hn : n ≤ 1000000 := by omega
    have kz : (0 : Int) ≤ (k : Int) := by omega
    have kn : (k : Int) < (f.ln : Int) := by omega
    have HSO := Lib.hid (sorted_c B A n c lk W hs.hB hR.lsb hn sm2)
    have SUM := Lib.hid (srtLk_sum sm2)
    clear hgk hgm e1 e2 hla hlk hll hc hcc hRl sm1 sm2 hL
    go_enter Try.func46, Try.ntmps46
    go_wp2_with (at_lookup; refine mvLook rfl _ _ rfl Try.underlying58 (.pointer none) zeroPM _ Bm g (k : Int) (by rfl) (by rfl) hg ?_; rw [E1.out, E2.out])
    refine HSO.out.mono ?_
    rintro e w1 ⟨A1, rfl, hR1, hb1⟩
    have hB1 : B ≤ w1.heap.size := Nat.le_trans hs.hB hb1.size
    go_wp2_with fail
    refine (newMatcher_c B 58 A1 n n (srtLk lk) w1 hB1 hR1 ⟨Nat.le_refl _, by omega⟩ (by omega) SUM.out.1 SUM.out.2).mono ?_
    rintro e w2 ⟨m, rfl, hm0, hmt, hb2⟩
    have hb12 := below_call hb1 hb2
    have hB2 : B ≤ w2.heap.size := Nat.le_trans hB1 hb2.size
    have hg2 := hg.keep (hb12.block Bm hg.lt)
    have c10' := cell_call c10 hb12
    clear hb1 hb2 hR1
    go_wp2_with (at_mapUpdate; refine mvPut rfl _ _ _ rfl Try.underlying58 _ Bm g (k : Int) (.pointer (some ⟨m, 0, none⟩)) (by rfl) (by rfl) (by rfl) hg2 ?_; intro w3 hg3 hgr3)
    go_ret
    have k2 : Kept (SB B W) W w2 := kept_sb hs.hB hb12
    have k3 : Kept (SB B w2) w2 w3 := kept_map hg2 hB2 hs.lm hgr3
    have up : ∀ b, SB B W b → SB B w2 b := fun b hb => hb.below hb12
    have k23 : Kept (SB B W) W w3 := fun b hb => (k3 b (up b hb)).trans (k2 b hb)
    have hmt3 := hmt.kept k3
    have wk2 := hs.wk.below hb12 hs.wk.lt
    have wk3 : Bk w3 Bw 60 (wkC f RA rn rc (.map (some Bm))) := wk2.grown hgr3 (fun e => by
      have e := Option.some.inj e
      subst e
      obtain ⟨es, c', h1, _⟩ := hg2
      unfold Bk at wk2; rw [wk2] at h1; cases h1)
    have bfin : Below B W w3 := (hb12.mono hs.hB).grown hgr3 hB2 (fun j e => by have e := Option.some.inj e; have := hs.lm; omega)
    refine ⟨m, rfl, hmt3, ⟨Nat.le_trans hB2 hgr3.size, hs.lw, hs.lm, wk3, hs.font.mono (fun _ h => h) (kept_below bfin), ⟨_, hg3, fun j v hv => ?_⟩, ?_⟩, k23, bfin⟩
    · by_cases hjk : j = (k : Int)
      · rw [if_pos hjk] at hv
        injection hv with hv
        exact ⟨m, lk, hv.symm, by rw [hjk]; exact HLA.out, hmt3⟩
      · rw [if_neg hjk] at hv
        obtain ⟨m', lk', h1, h2, h3⟩ := HGM.out j v hv
        exact ⟨m', lk', h1, h2, (h3.kept k2).kept k3⟩
    · refine (hs.own.call hb12).grown hgr3 (fun b' e e2 => ?_)
      have e2 := Option.some.inj e2
      subst e2
      obtain ⟨_, _, _, cur, hh⟩ := (hs.own.call hb12).blk Bm (by rw [e]; rfl)
      obtain ⟨es, c', h1, _⟩ := hg2
      rw [hh] at h1; cases h1

end Go.Proofs.Ytkoocipagndclaa
