/- Walks: offer. -/
import Derived.Test.YtbjcbcdccekbkaaGreatA4
namespace Go.Proofs.YtbjcbcdccekbkaaGreat
open Go.RowKit Go.Shelf

abbrev basV (b : Bas) : Value := .agg #[.int .i64 b.p, .int .i64 b.x, .int .i64 b.y]
theorem zeroBas (w : World) : (zeroValue 90).run Tryz.prog w = .ok (.agg #[.int .i64 0, .int .i64 0, .int .i64 0]) w := by kernel_rfl
/-- The map of bases. -/
def MapB (W : World) (bm : Nat) (bs : Int → Option Bas) : Prop := MapV W bm fun c => (bs c).map basV
theorem MapB.put {W : World} {bm : Nat} {bs : Int → Option Bas} {k : Int} {b : Bas} (h : MapV W bm fun j => if j = k then some (basV b) else (bs j).map basV) : MapB W bm (putB bs k b) := by
  unfold MapB
  have e : (fun c => (putB bs k b c).map basV) = fun j => if j = k then some (basV b) else (bs j).map basV := by
    funext c
    unfold putB
    split <;> rfl
  rw [e]; exact h
theorem offer_next {l : List Anc} {j : Nat} {a : Anc} {i : Nat} {bs : Int → Option Bas} (h : l[j]? = some a) : offerL (l.take (j + 1)) i bs = offer1 i (offerL (l.take j) i bs) a := by
  unfold offerL; rw [List.take_add_one, h]; simp
section
variable {B : Nat} {W W' : World} {Bp : Nat} {f : FV} {F : Fnt} {kd : Int} {ign : Bool} {LA : Option Addr} {ll lc : Nat} {num : Int} {RA : Option Addr} {rn rc : Nat} {run : List Itm}
/-- A map's block is another one. -/
theorem PS.map {bm : Nat} {g : Int → Option Value} (h : PS B W Bp f F kd ign LA ll lc num RA rn rc run) (hm : MapV W bm g) (hbm : B ≤ bm) (hg : W.grownBy W' (some bm)) : PS B W' Bp f F kd ign LA ll lc num RA rn rc run := by
  obtain ⟨es, c, h1, _⟩ := hm
  refine ⟨Nat.le_trans h.hB hg.size, h.lp, h.pk.grown hg (fun e => ?_), h.font.mono (fun _ h => h) (kept_below ((Below.refl _ _).grown hg h.hB (fun j e => by have e := Option.some.inj e; omega))), h.own.grown hg (fun b e e2 => ?_)⟩
  · have e := Option.some.inj e
    subst e
    have hw := h.pk
    unfold Bk at hw; rw [hw] at h1; cases h1
  · have e2 := Option.some.inj e2
    subst e2
    obtain ⟨_, _, _, cur, hh⟩ := h.own.blk bm (by rw [e]; rfl)
    rw [hh] at h1; cases h1
end
theorem grown_call {W X Y : World} {r : Option Nat} (h : W.grownBy X r) (k : Below X.heap.size X Y) : W.grownBy Y r :=
  ⟨k.os.trans h.os, k.tape.trans h.tape, k.output.trans h.output, Nat.le_trans h.size k.size, fun b hb hne => (k.block b (Nat.lt_of_lt_of_le hb h.size)).trans (h.block b hb hne)⟩
theorem grown_lit {W X : World} {r : Option Nat} (h : W.grownBy X r) (o : Obj) : W.grownBy (X.alloc o) r := grown_call h ((Below.refl _ _).alloc (Nat.le_refl _) o)

set_option maxRecDepth 100000 in
set_option maxHeartbeats 2000000 in
theorem offer_c (B Bp bm : Nat) (f : FV) (F : Fnt) (kd : Int) (ign : Bool) (LA : Option Addr) (ll lc : Nat) (num : Int) (RA : Option Addr) (rn rc : Nat) (run : List Itm) (i : Nat) (bs : Int → Option Bas) (W : World) (hs : PS B W Bp f F kd ign LA ll lc num RA rn rc run) (hm : MapB W bm bs) (hbm : B ≤ bm) (hi : i < run.length) (hrn : rn ≤ 1000000) :
    Calls Tryz.prog 30 #[.pointer (some ⟨Bp, 0, none⟩), .int .i64 (i : Int), .map (some bm)] W fun e W' => e = .returned (.tuple #[]) ∧ MapB W' bm (offerL (ancOf F (gAt run i)) i bs) ∧ W.grownBy W' (some bm) := by
  have HA := Lib.hid (panchors_c B Bp f F kd ign LA ll lc num RA rn rc run i W hs hi (by omega))
  obtain ⟨anc, han⟩ : ∃ l, l = ancOf F (gAt run i) := ⟨_, rfl⟩
  rw [← han] at HA ⊢
  have hB := hs.hB
  clear han hs
  go_enter Tryz.func30, Tryz.ntmps30
  go_wp2_with fail
  refine HA.out.mono ?_
  rintro e w1 ⟨A, n, c, rfl, hA, hd, rfl⟩
  have hnM : n ≤ 9223372036854775807 := Nat.le_trans hd.1 hd.2
  have HL := Lib.hid hA.len
  go_wp2
  go_loopw [14] (fun s wr => ∃ j : Nat, j ≤ n ∧ s = .int .i64 j ∧ MapB wr bm (offerL (anc.take j) i bs) ∧ W.grownBy wr (some bm)) (fun s _ => n - (intOf s).toNat)
  case atStart => exact ⟨0, by omega, rfl, hm, World.grownBy.refl _ _⟩
  case round =>
    obtain ⟨j, hj, rfl, hmr, hgr⟩ := hrel
    clear hm
    by_cases hlt : j < n
    · obtain ⟨a, haj⟩ := at_some anc j (by have := HL.out; omega)
      have bB : Below B W wr := (Below.refl _ _).grown hgr hB (fun q e => by have e := Option.some.inj e; omega)
      have hAr : RdA wr (lo B) A n anc := hA.mono (fun _ h => h) (kept_below bB)
      obtain ⟨b2, o2, rfl, hb2, hc2⟩ := hAr.pos (by omega)
      obtain ⟨cs, rfl, hcc⟩ := hc2 j a haj
      have g0 := hcc 0 _ rfl
      have g1 := hcc 1 _ rfl
      have g2 := hcc 2 _ rfl
      have g3 := hcc 3 _ rfl
      rw [Nat.add_zero] at g0
      have hon := offer_next (i := i) (bs := bs) haj
      have HON := Lib.hid hon
      have jz : (0 : Int) ≤ (j : Int) := by omega
      have jn : (j : Int) < (n : Int) := by omega
      have hsB := bB.size
      clear haj hc2 hcc hAr hon bB
      generalize offerL (anc.take j) i bs = cb at *
      by_cases hk : a.k = 1
      · have e1 : (a.k != 1) = false := by simp [hk]
        have hmr2 := hmr.keep (Below.heap_alloc wr (.cells #[.int .i64 a.k, .int .i64 a.c, .int .i64 a.x, .int .i64 a.y] 75) bm hmr.lt)
        cases hcb : cb a.c with
        | none =>
          have hres : offerL (anc.take (j + 1)) i bs = putB cb a.c ⟨i, a.x, a.y⟩ := by rw [HON.out]; unfold offer1; rw [if_pos hk, hcb]
          have HRES := Lib.hid hres
          have q1 : ((cb a.c).map basV).getD (.agg #[.int .i64 0, .int .i64 0, .int .i64 0]) = .agg #[.int .i64 0, .int .i64 0, .int .i64 0] := by rw [hcb]; rfl
          have q2 : ((cb a.c).map basV).isSome = false := by rw [hcb]; rfl
          have Q1 := Lib.hid q1; have Q2 := Lib.hid q2
          rw [hk] at g0 hmr2
          have hmr3 := hmr2.keep (Below.heap_alloc (wr.alloc (.cells #[.int .i64 1, .int .i64 a.c, .int .i64 a.x, .int .i64 a.y] 75)) (.cells #[.int .i64 0, .int .i64 0, .int .i64 0] 90) bm (by have := hmr.lt; simp; omega))
          have HG3 := Lib.hid (grown_lit (grown_lit hgr (.cells #[.int .i64 1, .int .i64 a.c, .int .i64 a.x, .int .i64 a.y] 75)) (.cells #[.int .i64 0, .int .i64 0, .int .i64 0] 90))
          clear hres q1 q2 hcb hk hgr
          go_wp2_with first
            | (at_lookup; refine mvLook rfl _ _ rfl Tryz.underlying71 (.agg #[.int .i64 0, .int .i64 0, .int .i64 0]) zeroBas _ bm _ a.c (by rfl) (by rfl) hmr2 ?_; rw [Q1.out, Q2.out])
            | (at_mapUpdate; refine mvPut rfl _ _ _ rfl Tryz.underlying71 _ bm _ a.c (.agg #[.int .i64 (i : Int), .int .i64 a.x, .int .i64 a.y]) (by rfl) (by rfl) (by rfl) hmr3 ?_; intro w3 hm3 hg3)
          go_roundw
          case rel => exact ⟨j + 1, by omega, by go_num, by rw [HRES.out]; exact MapB.put (b := ⟨i, a.x, a.y⟩) hm3, HG3.out.trans hg3⟩
          case measure => simp [intOf]; omega
        | some b =>
          have q1 : ((cb a.c).map basV).getD (.agg #[.int .i64 0, .int .i64 0, .int .i64 0]) = .agg #[.int .i64 b.p, .int .i64 b.x, .int .i64 b.y] := by rw [hcb]; rfl
          have q2 : ((cb a.c).map basV).isSome = true := by rw [hcb]; rfl
          have Q1 := Lib.hid q1; have Q2 := Lib.hid q2
          by_cases hbp : b.p = (i : Int)
          · have hres : offerL (anc.take (j + 1)) i bs = cb := by rw [HON.out]; unfold offer1; rw [if_pos hk, hcb]; dsimp only; rw [if_pos hbp]
            have HRES := Lib.hid hres
            have e2 : (b.p != (i : Int)) = false := by simp [hbp]
            rw [hk] at g0 hmr2
            have hmr3 := hmr2.keep (Below.heap_alloc (wr.alloc (.cells #[.int .i64 1, .int .i64 a.c, .int .i64 a.x, .int .i64 a.y] 75)) (.cells #[.int .i64 b.p, .int .i64 b.x, .int .i64 b.y] 90) bm (by have := hmr.lt; simp; omega))
            have HG3 := Lib.hid (grown_lit (grown_lit hgr (.cells #[.int .i64 1, .int .i64 a.c, .int .i64 a.x, .int .i64 a.y] 75)) (.cells #[.int .i64 b.p, .int .i64 b.x, .int .i64 b.y] 90))
            clear hres q1 q2 hcb hk hgr hbp
            go_wp2_with (at_lookup; refine mvLook rfl _ _ rfl Tryz.underlying71 (.agg #[.int .i64 0, .int .i64 0, .int .i64 0]) zeroBas _ bm _ a.c (by rfl) (by rfl) hmr2 ?_; rw [Q1.out, Q2.out])
            go_roundw
            case rel => exact ⟨j + 1, by omega, by go_num, by rw [HRES.out]; exact hmr3, HG3.out⟩
            case measure => simp [intOf]; omega
          · have hres : offerL (anc.take (j + 1)) i bs = putB cb a.c ⟨i, a.x, a.y⟩ := by rw [HON.out]; unfold offer1; rw [if_pos hk, hcb]; dsimp only; rw [if_neg hbp]
            have HRES := Lib.hid hres
            have e2 : (b.p != (i : Int)) = true := by simp [hbp]
            rw [hk] at g0 hmr2
            have hmr3 := hmr2.keep (Below.heap_alloc (wr.alloc (.cells #[.int .i64 1, .int .i64 a.c, .int .i64 a.x, .int .i64 a.y] 75)) (.cells #[.int .i64 b.p, .int .i64 b.x, .int .i64 b.y] 90) bm (by have := hmr.lt; simp; omega))
            have HG3 := Lib.hid (grown_lit (grown_lit hgr (.cells #[.int .i64 1, .int .i64 a.c, .int .i64 a.x, .int .i64 a.y] 75)) (.cells #[.int .i64 b.p, .int .i64 b.x, .int .i64 b.y] 90))
            clear hres q1 q2 hcb hk hgr
            go_wp2_with first
              | (at_lookup; refine mvLook rfl _ _ rfl Tryz.underlying71 (.agg #[.int .i64 0, .int .i64 0, .int .i64 0]) zeroBas _ bm _ a.c (by rfl) (by rfl) hmr2 ?_; rw [Q1.out, Q2.out])
              | (at_mapUpdate; refine mvPut rfl _ _ _ rfl Tryz.underlying71 _ bm _ a.c (.agg #[.int .i64 (i : Int), .int .i64 a.x, .int .i64 a.y]) (by rfl) (by rfl) (by rfl) hmr3 ?_; intro w3 hm3 hg3)
            go_roundw
            case rel => exact ⟨j + 1, by omega, by go_num, by rw [HRES.out]; exact MapB.put (b := ⟨i, a.x, a.y⟩) hm3, HG3.out.trans hg3⟩
            case measure => simp [intOf]; omega
      · have e1 : (a.k != 1) = true := by simp [hk]
        have hres : offerL (anc.take (j + 1)) i bs = cb := by rw [HON.out]; unfold offer1; rw [if_neg hk]
        have HRES := Lib.hid hres
        clear hres
        go_wp2
        go_roundw
        case rel => exact ⟨j + 1, by omega, by go_num, by rw [HRES.out]; exact hmr.keep (Below.heap_alloc wr _ bm hmr.lt), grown_lit hgr _⟩
        case measure => simp [intOf]; omega
    · go_wp2
      go_end0
      refine ⟨rfl, ?_, hgr⟩
      rw [List.take_of_length_le (by have := HL.out; omega)] at hmr
      exact hmr

end Go.Proofs.YtbjcbcdccekbkaaGreat
