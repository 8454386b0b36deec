/- Walks: pairs, done. -/
import Derived.Test.YtbjcbcdccekbkaaGreatA9
import Derived.Test.YtbjcbcdccekbkaaGreatA8
import Derived.Test.YtbjcbcdccekbkaaGreatP1
import Derived.Deep.RegionHeld3
import Derived.Deep.MidRow
import Derived.Deep.RegionWith
namespace Go.Proofs.YtbjcbcdccekbkaaGreat
open Go.RowKit Go.Shelf
attribute [local go_sem ↓] Go.wp_at_zero Go.wp_at_succ

/-- What a change of a placing leaves. -/
def CPost (B Bp : Nat) (f : FV) (F : Fnt) (kd : Int) (ign : Bool) (LA : Option Addr) (ll lc : Nat) (num : Int) (W : World) (run' : List Itm) (e : Ending) (W' : World) : Prop :=
  e = .returned (.tuple #[]) ∧ ∃ RA rn rc, PS B W' Bp f F kd ign LA ll lc num RA rn rc run' ∧ Below B W W'
theorem PPost.c {B Bp : Nat} {f : FV} {F : Fnt} {kd : Int} {ign : Bool} {LA : Option Addr} {ll lc : Nat} {num : Int} {RA : Option Addr} {rn rc : Nat} {W : World} {run' : List Itm} {e : Ending} {W' : World} (h : PPost B Bp f F kd ign LA ll lc num RA rn rc W run' e W') : CPost B Bp f F kd ign LA ll lc num W run' e W' := ⟨h.1, RA, rn, rc, h.2⟩
/-- What done tells. -/
def RPost (B : Nat) (W : World) (run' : List Itm) (e : Ending) (W' : World) : Prop := ∃ A n c, e = .returned (.slice A n c) ∧ Ow 57 6 W' B A n c (itc run') ∧ Below B W W'

theorem PS.newRun {B : Nat} {W W2 : World} {Bp : Nat} {f : FV} {F : Fnt} {kd : Int} {ign : Bool} {LA : Option Addr} {ll lc : Nat} {num : Int} {RA : Option Addr} {rn rc : Nat} {run : List Itm} (h : PS B W Bp f F kd ign LA ll lc num RA rn rc run) (hb : Below W.heap.size W W2) {A : Option Addr} {n c : Nat} {run' : List Itm} (ho : Ow 57 6 W2 W.heap.size A n c (itc run')) :
    PS B (W2.setCell ⟨Bp, 13, none⟩ (.slice A n c)) Bp f F kd ign LA ll lc num A n c run' ∧ Below B W (W2.setCell ⟨Bp, 13, none⟩ (.slice A n c)) := by
  have h2 := h.call hb
  have hb2 : Below B W (W2.setCell ⟨Bp, 13, none⟩ (.slice A n c)) := (hb.mono h.hB).setCell (p := ⟨Bp, 13, none⟩) h.lp _
  refine ⟨⟨by have := h2.hB; simpa using this, h.lp, h2.pk.set_ 13 _, h.font.mono (fun _ h => h) (kept_below hb2), (ho.lower h.hB).setOther (p := ⟨Bp, 13, none⟩) (fun b e => ?_) _⟩, hb2⟩
  have h1 := (ho.lt b 0 none e).1
  have h3 := h.pk.lt
  show b ≠ Bp
  omega

theorem lenOK_pair {F : Fnt} {lk : Lk} (hk : lk.kind = 6) : LenOK F lk := by
  intro run k forms n ps hl hm
  rw [doL_pair hk, pairL_len]
  exact ⟨hl, fun _ => by omega, fun _ => rfl⟩
theorem apOK_pair {f : FV} {F : Fnt} {k : Nat} {lk : Lk} (hk : lk.kind = 6) (hlk : F.lks[k]? = some lk) : ApOK f F k lk := fun _ _ => ⟨fun h5 => by omega, fun _ => ⟨fun B Bw Bm => do_pair B Bw Bm f F k lk 0 hlk hk, lenOK_pair hk⟩⟩

set_option maxRecDepth 100000 in
set_option maxHeartbeats 4000000 in
theorem pairs_c (B Bp : Nat) (f : FV) (F : Fnt) (kd : Int) (ign : Bool) (LA : Option Addr) (ll lc : Nat) (num : Int) (RA : Option Addr) (rn rc : Nat) (run : List Itm) (W : World) (hs : PS B W Bp f F kd ign LA ll lc num RA rn rc run) (hlen : run.length ≤ 1000) (hsm : SmF F) (hk : ∀ k : Nat, num = (k : Int) → ∀ lk, F.lks[k]? = some lk → lk.kind = 6) :
    Calls Tryz.prog 11 #[.pointer (some ⟨Bp, 0, none⟩)] W (CPost B Bp f F kd ign LA ll lc num W (applyL w64 F num run [])) := by
  obtain ⟨y0, y1, y2, y3, y4, y5, y6, y7, y8⟩ := hs.f9
  have c12 := hs.c12
  have c13 := hs.c13
  have HA := Lib.hid fun (W1 : World) (h1 : PS B W1 Bp f F kd ign LA ll lc num RA rn rc run) => apply_c f F num RA rn rc run none 0 0 [] W1 h1.fontU h1.own.rdI SlE.nil (by omega) hlen hsm (fun k lk e h => apOK_pair (hk k e lk h) h)
  unfold FV.cells at HA
  have HS := Lib.hid hs
  have hlt := hs.pk.lt
  have fz := hs.pk.frozen 13
  clear hs hk hsm hlen
  go_enter Tryz.func11, Tryz.ntmps11
  go_wp2
  go_region_with (go_at_call 26; (with_reducible refine (HA.out _ ?_).mono ?_); exact HS.out.drew_; rintro e w5 ⟨A5, n5, c5, rfl, ho5, hb5⟩; have hs5 := HS.out.call (below_undrew hb5); have z13 := hs5.c13; have zf := hs5.pk.frozen 13)
  all_goals
    go_end0
    obtain ⟨hsF, bF⟩ := HS.out.newRun (below_undrew hb5) ho5
    exact ⟨rfl, _, _, _, hsF, bF⟩

set_option maxRecDepth 100000 in
set_option maxHeartbeats 1000000 in
theorem done_cursive (B Bp : Nat) (f : FV) (F : Fnt) (kd : Int) (ign : Bool) (LA : Option Addr) (ll lc : Nat) (num : Int) (RA : Option Addr) (rn rc : Nat) (run : List Itm) (W : World) (hs : PS B W Bp f F kd ign LA ll lc num RA rn rc run) (hrn : rn ≤ 1000000) :
    Calls Tryz.prog 14 #[.pointer (some ⟨Bp, 0, none⟩), .int .i64 7, .func (.func 12) #[.pointer (some ⟨Bp, 0, none⟩)] #[]] W (RPost B W (if kd = 7 then cursL w64 F ign run else run)) := by
  have c9 := hs.c9
  have c13 := hs.c13
  by_cases h : kd = 7
  · subst h
    have HC := Lib.hid ((cursive_c B Bp f F 7 ign LA ll lc num RA rn rc run W hs hrn).mono fun e W' h => PPost.c h)
    rw [if_pos rfl]
    have HS := Lib.hid hs
    clear hs
    go_enter Tryz.func14, Tryz.ntmps14
    go_wp2_with fail
    refine HC.out.mono ?_
    rintro e W2 ⟨rfl, RA2, rn2, rc2, hs2, b2⟩
    have c132 := hs2.c13
    go_wp2
    go_ret
    exact ⟨_, _, _, rfl, hs2.own, b2⟩
  · rw [if_neg h]
    have e1 : (kd == 7) = false := by simpa using h
    go_enter Tryz.func14, Tryz.ntmps14
    go_wp2
    go_ret
    exact ⟨_, _, _, rfl, hs.own, Below.refl _ _⟩

set_option maxRecDepth 100000 in
set_option maxHeartbeats 1000000 in
theorem done_marks (B Bp : Nat) (f : FV) (F : Fnt) (kd : Int) (ign : Bool) (LA : Option Addr) (ll lc : Nat) (num : Int) (RA : Option Addr) (rn rc : Nat) (run : List Itm) (W : World) (hs : PS B W Bp f F kd ign LA ll lc num RA rn rc run) (hrn : rn ≤ 1000000) :
    Calls Tryz.prog 14 #[.pointer (some ⟨Bp, 0, none⟩), .int .i64 8, .func (.func 13) #[.pointer (some ⟨Bp, 0, none⟩)] #[]] W (RPost B W (if kd = 8 then marksL w64 F ign run else run)) := by
  have c9 := hs.c9
  have c13 := hs.c13
  by_cases h : kd = 8
  · subst h
    have HC := Lib.hid ((marks_c B Bp f F 8 ign LA ll lc num RA rn rc run W hs hrn).mono fun e W' h => PPost.c h)
    rw [if_pos rfl]
    have HS := Lib.hid hs
    clear hs
    go_enter Tryz.func14, Tryz.ntmps14
    go_wp2_with fail
    refine HC.out.mono ?_
    rintro e W2 ⟨rfl, RA2, rn2, rc2, hs2, b2⟩
    have c132 := hs2.c13
    go_wp2
    go_ret
    exact ⟨_, _, _, rfl, hs2.own, b2⟩
  · rw [if_neg h]
    have e1 : (kd == 8) = false := by simpa using h
    go_enter Tryz.func14, Tryz.ntmps14
    go_wp2
    go_ret
    exact ⟨_, _, _, rfl, hs.own, Below.refl _ _⟩

set_option maxRecDepth 100000 in
set_option maxHeartbeats 1000000 in
theorem done_pairs (B Bp : Nat) (f : FV) (F : Fnt) (kd : Int) (ign : Bool) (LA : Option Addr) (ll lc : Nat) (num : Int) (RA : Option Addr) (rn rc : Nat) (run : List Itm) (W : World) (hs : PS B W Bp f F kd ign LA ll lc num RA rn rc run) (hlen : run.length ≤ 1000) (hsm : SmF F) (hk : kd = 6 → ∀ k : Nat, num = (k : Int) → ∀ lk, F.lks[k]? = some lk → lk.kind = 6) :
    Calls Tryz.prog 14 #[.pointer (some ⟨Bp, 0, none⟩), .int .i64 6, .func (.func 11) #[.pointer (some ⟨Bp, 0, none⟩)] #[]] W (RPost B W (if kd = 6 then applyL w64 F num run [] else run)) := by
  have c9 := hs.c9
  have c13 := hs.c13
  by_cases h : kd = 6
  · subst h
    have HC := Lib.hid (pairs_c B Bp f F 6 ign LA ll lc num RA rn rc run W hs hlen hsm (hk rfl))
    rw [if_pos rfl]
    have HS := Lib.hid hs
    clear hs
    go_enter Tryz.func14, Tryz.ntmps14
    go_wp2_with fail
    refine HC.out.mono ?_
    rintro e W2 ⟨rfl, RA2, rn2, rc2, hs2, b2⟩
    have c132 := hs2.c13
    go_wp2
    go_ret
    exact ⟨_, _, _, rfl, hs2.own, b2⟩
  · rw [if_neg h]
    have e1 : (kd == 6) = false := by simpa using h
    go_enter Tryz.func14, Tryz.ntmps14
    go_wp2
    go_ret
    exact ⟨_, _, _, rfl, hs.own, Below.refl _ _⟩

end Go.Proofs.YtbjcbcdccekbkaaGreat
