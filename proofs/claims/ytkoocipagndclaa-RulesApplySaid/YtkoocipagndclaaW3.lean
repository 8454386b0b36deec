/- Walks: begins, matches. -/
import Derived.Test.YtkoocipagndclaaW2
namespace Go.Proofs.Ytkoocipagndclaa
open Go.RowKit

theorem begL_out {F : Fnt} {ign : Bool} {run : List Itm} {k : Int} {forms : List Int} (h : k < 0 ∨ (run.length : Int) ≤ k) : begL F ign run k forms = false := by
  unfold begL
  rcases h with h | h
  · simp [show ¬ (0 ≤ k) by omega]
  · simp [show ¬ (k < run.length) by omega]
theorem begL_in {F : Fnt} {ign : Bool} {run : List Itm} {k : Nat} {forms : List Int} {it : Itm} (h : run[k]? = some it) : begL F ign run (k : Int) forms = (!(ign && isMark F it.g) && (forms.isEmpty || forms.contains it.f)) := by
  have hl := (List.getElem?_eq_some_iff.1 h).1
  unfold begL seenB
  rw [Int.toNat_natCast, gAt_some h, fAt_some h]
  simp [hl]

set_option maxRecDepth 100000 in
set_option maxHeartbeats 1000000 in
theorem begins_c (Bw Bm : Nat) (f : FV) (F : Fnt) (RA FA : Option Addr) (rn rc fn fc : Nat) (run : List Itm) (ign : Bool) (k : Int) (forms : List Int) (w : World)
    (hf : IsF w (lo w.heap.size) f F) (h1 : w.cell? ⟨Bw, 1, none⟩ = some (.slice f.ga f.gn f.gc)) (h9 : w.cell? ⟨Bw, 9, none⟩ = some (.slice RA rn rc)) (hI : RdI w (lo w.heap.size) RA rn run)
    (hm : w.cell? ⟨Bm, 1, none⟩ = some (.bool ign)) (hF : Rd w (lo w.heap.size) FA fn forms) (hrn : rn ≤ 9223372036854775807) (hfn : fn ≤ 9223372036854775807) :
    Calls Try.prog 37 #[.pointer (some ⟨Bw, 0, none⟩), .pointer (some ⟨Bm, 0, none⟩), .int .i64 k, .slice FA fn fc] w fun e w' => e = .returned (.bool (begL F ign run k forms)) ∧ w = w' := by
  have hl := hI.len
  by_cases h0 : k < 0
  · rw [begL_out (.inl h0)]
    clear hl
    go_enter Try.func37, Try.ntmps37
    go_wp2
    go_ret
    exact ⟨rfl, rfl⟩
  · have t0 : decide (k < 0) = false := by simp; omega
    by_cases hk : (rn : Int) ≤ k
    · rw [begL_out (.inr (by omega))]
      clear hl
      go_enter Try.func37, Try.ntmps37
      go_wp2
      go_ret
      exact ⟨rfl, rfl⟩
    · obtain ⟨k, rfl⟩ : ∃ j : Nat, k = j := ⟨k.toNat, by omega⟩
      have t1 : decide ((rn : Int) ≤ (k : Int)) = false := by simp; omega
      have t2 : decide (rn ≤ k) = false := by simp; omega
      obtain ⟨it, hit⟩ := at_some run k (by omega)
      obtain ⟨b, o, rfl, _, hc⟩ := hI.pos (by omega)
      obtain ⟨cs, rfl, hcc⟩ := hc k it hit
      have g0 := hcc 0 _ rfl
      have g2 := hcc 2 _ rfl
      rw [Nat.add_zero] at g0
      rw [begL_in hit]
      have kz : (0 : Int) ≤ (k : Int) := by omega
      have kn : (k : Int) < (rn : Int) := by omega
      have HC := Lib.hid (contains_c FA fn fc forms it.f w hF hfn)
      have HM := Lib.hid (isMark_c Bw f F it.g w hf h1)
      have hfl := hF.len
      clear hit hc hcc hl hI hF hf
      by_cases hem : fn = 0
      · subst hem
        have hnil : forms = [] := List.eq_nil_of_length_eq_zero hfl
        subst hnil
        cases ign with
        | false =>
          go_enter Try.func37, Try.ntmps37
          go_wp2
          go_ret
          exact ⟨rfl, rfl⟩
        | true =>
          cases hmk : isMark F it.g with
          | false =>
            rw [hmk] at HM
            clear hmk
            go_enter Try.func37, Try.ntmps37
            go_wp2_with (go_at_call 53; refine HM.out.mono ?_; rintro e w' ⟨rfl, rfl⟩)
            go_ret
            exact ⟨rfl, rfl⟩
          | true =>
            rw [hmk] at HM
            clear hmk
            go_enter Try.func37, Try.ntmps37
            go_wp2_with (go_at_call 53; refine HM.out.mono ?_; rintro e w' ⟨rfl, rfl⟩)
            go_ret
            exact ⟨rfl, rfl⟩
      · have hne : forms.isEmpty = false := by cases forms with | nil => simp at hfl; omega | cons _ _ => rfl
        rw [hne]
        have e0 : ((fn : Int) == 0) = false := by simp; omega
        have e1 : (fn == 0) = false := by simp; omega
        clear hfl hne
        cases ign with
        | false =>
          go_enter Try.func37, Try.ntmps37
          go_wp2_with (go_at_call 27; refine HC.out.mono ?_; rintro e w' ⟨rfl, rfl⟩)
          go_ret
          exact ⟨ret_bool (by simp), rfl⟩
        | true =>
          cases hmk : isMark F it.g with
          | false =>
            rw [hmk] at HM
            clear hmk
            go_enter Try.func37, Try.ntmps37
            go_wp2_with (first | (go_at_call 53; refine HM.out.mono ?_; rintro e w' ⟨rfl, rfl⟩) | (go_at_call 27; refine HC.out.mono ?_; rintro e w' ⟨rfl, rfl⟩))
            go_ret
            exact ⟨ret_bool (by simp), rfl⟩
          | true =>
            rw [hmk] at HM
            clear hmk
            go_enter Try.func37, Try.ntmps37
            go_wp2_with (go_at_call 53; refine HM.out.mono ?_; rintro e w' ⟨rfl, rfl⟩)
            go_ret
            exact ⟨rfl, rfl⟩

end Go.Proofs.Ytkoocipagndclaa
