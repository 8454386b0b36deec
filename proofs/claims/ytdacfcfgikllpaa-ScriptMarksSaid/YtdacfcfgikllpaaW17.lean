/- Walks: ScriptKinds; what an argument that is a slice of ints reads as. -/
import Derived.Test.YtdacfcfgikllpaaW16
import Derived.ProofKit
namespace Go.Proofs.Ytdacfcfgikllpaa
open Go.RowKit

/-- A slice of integers that came in: nil, or a row of cap cells, the numbers zs, each fitting its kind. -/
def IsRow (k : IntKind) (w : World) (a : Option Addr) (len cap : Nat) (zs : List Int) : Prop :=
  (a = none ∧ len = 0 ∧ cap = 0 ∧ zs = []) ∨
  ∃ x, a = some x ∧ len ≤ cap ∧ cap ≤ maxLen ∧ zs.length = cap ∧ (∀ i, i < zs.length → w.cell? (x.add i) = some (.int k (zs.getD i 0))) ∧ ∀ n ∈ zs, (Lit.int k n).wf = true

theorem IsRow.rd {w : World} {a : Option Addr} {len cap : Nat} {zs : List Int} (h : IsRow .i64 w a len cap zs) : Rd w w.heap.size a len (zs.take len) ∧ len ≤ cap ∧ cap ≤ 9223372036854775807 := by
  rcases h with ⟨rfl, rfl, rfl, rfl⟩ | ⟨x, rfl, h1, h2, h3, h4, _⟩
  · exact ⟨by simpa using Rd.nil, by omega, by omega⟩
  · refine ⟨⟨by simp; omega, fun hn => ?_⟩, h1, by unfold maxLen at h2; omega⟩
    obtain ⟨b, o, sp⟩ := x
    have hsp : sp = none := by
      have h0 := h4 0 (by omega)
      cases sp with
      | none => rfl
      | some s =>
        simp [Addr.add, World.cell?] at h0
        split at h0 <;> simp_all
    subst hsp
    have hb : b < w.heap.size := by
      have h0 := h4 0 (by omega)
      simp only [Addr.add, if_true] at h0
      unfold World.cell? at h0
      rcases Nat.lt_or_ge b w.heap.size with hlt | hge
      · exact hlt
      · rw [Array.getElem?_eq_none hge] at h0; simp at h0
    refine ⟨b, o, rfl, hb, fun i x hx => ?_⟩
    rw [List.getElem?_take] at hx
    split at hx
    · have hi : i < zs.length := (List.getElem?_eq_some_iff.1 hx).1
      have h0 := h4 i hi
      rw [getD_of hx] at h0
      rw [← h0]
      unfold Addr.add
      split
      · rename_i e; subst e; rfl
      · rfl
    · cases hx

set_option maxHeartbeats 400000 in
theorem scriptKinds_walk (a0 : Int) (_w0 : (Lit.int .i64 a0).wf = true) (w : World) :
    Calls Try.prog 3 #[.int .i64 a0] w fun e w' => e = .returned (.bool true) ∧ Below w.heap.size w w' := by
  go_enter Try.func3, Try.ntmps3
  go_wp2_with fail
  refine (lshown_c _).mono ?_
  rintro e w1 ⟨rfl, hb1⟩
  go_wp2_with (first | (go_at_call 12; refine (kind_c _ _).mono ?_; rintro e w' ⟨rfl, rfl⟩) | (go_at_call 13; refine (rkind_c _ _).mono ?_; rintro e w' ⟨rfl, rfl⟩) | (go_at_call 14; refine (class_c _ _).mono ?_; rintro e w' ⟨rfl, rfl⟩) | (go_at_call 15; refine (rclass_c _ _).mono ?_; rintro e w' ⟨rfl, rfl⟩))
  go_ret
  exact ⟨by simp, hb1⟩

end Go.Proofs.Ytdacfcfgikllpaa
