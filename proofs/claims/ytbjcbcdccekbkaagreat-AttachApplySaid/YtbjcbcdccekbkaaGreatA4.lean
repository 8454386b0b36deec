/- Walks: cursive. -/
import Derived.Test.YtbjcbcdccekbkaaGreatA3
namespace Go.Proofs.YtbjcbcdccekbkaaGreat
open Go.RowKit Go.Shelf

theorem joinA_len (w : Int → Int) (F : Fnt) (run : List Itm) (a b : Nat) (bt : Int) : (joinA w F run a b bt).length = run.length := by
  unfold joinA
  split
  · simp
  · rfl
def cursAt (F : Fnt) (ign : Bool) (run : List Itm) (i : Nat) : Int × Int × List Itm := (List.range i).foldl (cursStep w64 F ign) (-1, 0, run)
theorem cursAt_next (F : Fnt) (ign : Bool) (run : List Itm) (i : Nat) : cursAt F ign run (i + 1) = cursStep w64 F ign (cursAt F ign run i) i := by
  unfold cursAt; rw [List.range_succ, List.foldl_append]; rfl
theorem cursAt_ok (F : Fnt) (ign : Bool) (run : List Itm) (i : Nat) : (cursAt F ign run i).2.2.length = run.length ∧ -1 ≤ (cursAt F ign run i).1 ∧ (cursAt F ign run i).1 < i := by
  induction i with
  | zero => exact ⟨rfl, by show (-1 : Int) ≤ -1; omega, by show (-1 : Int) < 0; omega⟩
  | succ i ih =>
    rw [cursAt_next]
    unfold cursStep
    split
    · exact ⟨ih.1, ih.2.1, by have := ih.2.2; show (cursAt F ign run i).1 < _; omega⟩
    · refine ⟨?_, by show (-1 : Int) ≤ (i : Int); omega, by show (i : Int) < _; omega⟩
      dsimp only
      split
      · rw [joinA_len]; exact ih.1
      · exact ih.1

set_option maxRecDepth 100000 in
set_option maxHeartbeats 2000000 in
theorem cursive_c (B Bp : Nat) (f : FV) (F : Fnt) (kd : Int) (ign : Bool) (LA : Option Addr) (ll lc : Nat) (num : Int) (RA : Option Addr) (rn rc : Nat) (run : List Itm) (W : World) (hs : PS B W Bp f F kd ign LA ll lc num RA rn rc run) (hrn : rn ≤ 1000000) :
    Calls Tryz.prog 12 #[.pointer (some ⟨Bp, 0, none⟩)] W (PPost B Bp f F kd ign LA ll lc num RA rn rc W (cursL w64 F ign run)) := by
  have HRL := Lib.hid hs.len
  have c13 := hs.c13
  have HS := Lib.hid hs
  clear hs
  go_enter Tryz.func12, Tryz.ntmps12
  go_wp2
  go_loopw [2, 3, 10] (fun s2 s3 s10 wr => ∃ (i : Nat) (st : Int × Int × List Itm), st = cursAt F ign run i ∧ i ≤ rn ∧ s10 = .int .i64 i ∧ s2 = .int .i64 st.1 ∧ s3 = .int .i64 st.2.1 ∧ PS B wr Bp f F kd ign LA ll lc num RA rn rc st.2.2 ∧ Below B W wr) (fun _ _ i _ => rn - (intOf i).toNat)
  case atStart => exact ⟨0, _, rfl, by omega, rfl, rfl, rfl, HS.out, Below.refl _ _⟩
  case round =>
    obtain ⟨i, ⟨ah, bt, cur⟩, hst, hi, rfl, rfl, rfl, hs, hbr⟩ := hrel
    dsimp only at hs ⊢
    have hok := cursAt_ok F ign run i
    rw [← hst] at hok
    obtain ⟨hl, ha1, ha2⟩ := hok
    dsimp only at hl ha1 ha2
    have hcl := hs.len
    have HST := Lib.hid hst
    clear hst c13
    by_cases hlt : i < rn
    · obtain ⟨it, hit⟩ := at_some cur i (by omega)
      obtain ⟨gi, rfl, _, _⟩ := hs.own.form (by omega)
      have c10 := hs.c10
      have c13 := hs.c13
      have i3 := hs.own.cell (itc_at hit (j := 3) (v := .int .i64 it.a) rfl)
      have HM := Lib.hid (pmark_c B Bp f F kd ign LA ll lc num _ rn rc cur i wr hs (by omega) (by omega))
      rw [gAt_some hit] at HM
      have hnx := cursAt_next F ign run i
      rw [← HST.out] at hnx
      unfold cursStep at hnx
      dsimp only at hnx
      rw [gAt_some hit, itAt_some hit] at hnx
      have HN := Lib.hid hnx
      have iz : (0 : Int) ≤ (i : Int) := by omega
      have ir : (i : Int) < (rn : Int) := by omega
      have hil : i < cur.length := by omega
      clear hnx hit hl hcl
      have fin : ∀ (wr' : World) (st' : Int × Int × List Itm), st' = cursAt F ign run (i + 1) → PS B wr' Bp f F kd ign LA ll lc num (some ⟨gi, 0, none⟩) rn rc st'.2.2 → Below B wr wr' → ∃ (j : Nat) (st : Int × Int × List Itm), st = cursAt F ign run j ∧ j ≤ rn ∧ (Value.int .i64 ((i : Int) + 1)) = .int .i64 j ∧ (Value.int .i64 st'.1) = .int .i64 st.1 ∧ (Value.int .i64 st'.2.1) = .int .i64 st.2.1 ∧ PS B wr' Bp f F kd ign LA ll lc num (some ⟨gi, 0, none⟩) rn rc st.2.2 ∧ Below B W wr' :=
        fun wr' st' h1 h2 h3 => ⟨i + 1, st', h1, by omega, by go_num, rfl, rfl, h2, hbr.trans h3⟩
      have FIN := Lib.hid fin
      clear fin
      have keyJ : (ign && isMark F it.g) = false → ∃ st', st' = cursAt F ign run (i + 1) ∧ st'.1 = (i : Int) ∧ st'.2.1 = 0 ∧ st'.2.2 = (if 0 ≤ ah then joinA w64 F cur ah.toNat i bt else cur) := fun h => ⟨_, rfl, by rw [HN.out, if_neg (by rw [h]; simp)], by rw [HN.out, if_neg (by rw [h]; simp)], by rw [HN.out, if_neg (by rw [h]; simp)]⟩
      have keyM : (ign && isMark F it.g) = true → cursAt F ign run (i + 1) = (ah, wrap64 (bt + it.a), cur) := fun h => by rw [HN.out, if_pos h]; rfl
      have KJ := Lib.hid keyJ; have KM := Lib.hid keyM
      clear keyJ keyM HN
      cases ign with
      | false =>
        obtain ⟨st', e1, e2, e3, e4⟩ := KJ.out rfl
        have E1 := Lib.hid e1; have E2 := Lib.hid e2; have E3 := Lib.hid e3
        by_cases h0 : 0 ≤ ah
        · obtain ⟨an, rfl⟩ : ∃ n : Nat, ah = n := ⟨ah.toNat, by omega⟩
          rw [if_pos h0, Int.toNat_natCast] at e4
          have E4 := Lib.hid e4
          clear e1 e2 e3 e4
          have HJ := Lib.hid (join_c B Bp f F kd false LA ll lc num _ rn rc cur an i bt wr hs (by omega) hil hrn)
          go_wp2_with fail
          refine HJ.out.mono ?_
          rintro e w5 ⟨rfl, hs5, hb5⟩
          go_wp2
          go_roundw
          case rel =>
            have := FIN.out w5 st' E1.out (by rw [E4.out]; exact hs5) hb5
            rw [E2.out, E3.out] at this
            exact this
          case measure => simp [intOf]; omega
        · have t0 : decide (0 ≤ ah) = false := by simp; omega
          rw [if_neg h0] at e4
          have E4 := Lib.hid e4
          clear e1 e2 e3 e4
          go_wp2
          go_roundw
          case rel =>
            have := FIN.out wr st' E1.out (by rw [E4.out]; exact hs) (Below.refl _ _)
            rw [E2.out, E3.out] at this
            exact this
          case measure => simp [intOf]; omega
      | true =>
        cases hmk : isMark F it.g with
        | true =>
          rw [hmk] at HM
          have EK := Lib.hid (KM.out (by rw [hmk]; rfl))
          clear hmk KJ KM
          go_wp2_with (go_at_call 27; refine HM.out.mono ?_; rintro e w' ⟨rfl, rfl⟩)
          go_roundw
          case rel =>
            have := FIN.out wr _ EK.out.symm hs (Below.refl _ _)
            exact this
          case measure => simp [intOf]; omega
        | false =>
          rw [hmk] at HM
          obtain ⟨st', e1, e2, e3, e4⟩ := KJ.out (by rw [hmk]; rfl)
          have E1 := Lib.hid e1; have E2 := Lib.hid e2; have E3 := Lib.hid e3
          clear hmk KJ KM
          by_cases h0 : 0 ≤ ah
          · obtain ⟨an, rfl⟩ : ∃ n : Nat, ah = n := ⟨ah.toNat, by omega⟩
            rw [if_pos h0, Int.toNat_natCast] at e4
            have E4 := Lib.hid e4
            clear e1 e2 e3 e4
            have HJ := Lib.hid (join_c B Bp f F kd true LA ll lc num _ rn rc cur an i bt wr hs (by omega) hil hrn)
            go_wp2_with (go_at_call 27; refine HM.out.mono ?_; rintro e w' ⟨rfl, rfl⟩)
            refine HJ.out.mono ?_
            rintro e w5 ⟨rfl, hs5, hb5⟩
            go_wp2
            go_roundw
            case rel =>
              have := FIN.out w5 st' E1.out (by rw [E4.out]; exact hs5) hb5
              rw [E2.out, E3.out] at this
              exact this
            case measure => simp [intOf]; omega
          · have t0 : decide (0 ≤ ah) = false := by simp; omega
            rw [if_neg h0] at e4
            have E4 := Lib.hid e4
            clear e1 e2 e3 e4
            go_wp2_with (go_at_call 27; refine HM.out.mono ?_; rintro e w' ⟨rfl, rfl⟩)
            go_roundw
            case rel =>
              have := FIN.out wr st' E1.out (by rw [E4.out]; exact hs) (Below.refl _ _)
              rw [E2.out, E3.out] at this
              exact this
            case measure => simp [intOf]; omega
    · have hfin : cursL w64 F ign run = cur := by
        have e : i = run.length := by have := HRL.out; omega
        unfold cursL
        rw [← e]
        show (cursAt F ign run i).2.2 = cur
        rw [← HST.out]
      have HF := Lib.hid hfin
      clear hfin
      go_wp2
      go_end0
      exact ⟨rfl, by rw [HF.out]; exact hs, hbr⟩

end Go.Proofs.YtbjcbcdccekbkaaGreat
