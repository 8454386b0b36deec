/- Walks: SetsPartition. -/
import Derived.Test.YtladdpfngoldcaaW18
import Derived.Deep.Matrix
import Derived.OpenShut
namespace Go.Proofs.Ytladdpfngoldcaa
open Go.RowKit

def partA (xss : List (List Int)) (n : Int) : List Int := if 1 ≤ n ∧ n ≤ 65536 then partL xss n.toNat else []
theorem part_a (n : Int) (A : Option Addr) (m c : Nat) (xss : List (List Int)) (w : World) (hR : Rds w w.heap.size A m xss) (hm : m ≤ 100) (hl : ∀ xs ∈ xss, xs.length ≤ 1000) :
    Calls Try.prog 22 #[.int .i64 n, .slice A m c] w fun e w' => ∃ A' k c', e = .returned (.slice A' k c') ∧ k ≤ 65536 ∧ Rd w' w'.heap.size A' k (partA xss n) ∧ Below w.heap.size w w' := by
  unfold partA
  by_cases h : 1 ≤ n ∧ n ≤ 65536
  · rw [if_pos h]
    obtain ⟨q, rfl⟩ : ∃ q : Nat, n = q := ⟨n.toNat, by omega⟩
    refine (part_c q A m c xss w hR (by omega) (by omega) hm hl).mono ?_
    rintro e w' ⟨A', c', rfl, ho, hb⟩
    exact ⟨A', q, c', rfl, by omega, by rw [Int.toNat_natCast]; exact ho.rd, hb⟩
  · rw [if_neg h]
    refine (part_nil n A m c w (by omega)).mono ?_
    rintro e w' ⟨rfl, rfl⟩
    exact ⟨none, 0, 0, rfl, by omega, Rd.nil, Below.refl _ _⟩
theorem rpart_a (n : Int) (A : Option Addr) (m c : Nat) (xss : List (List Int)) (w : World) (hR : Rds w w.heap.size A m xss) (hm : m ≤ 100) (hl : ∀ xs ∈ xss, xs.length ≤ 1000) :
    Calls Try.prog 23 #[.int .i64 n, .slice A m c] w fun e w' => ∃ A' k c', e = .returned (.slice A' k c') ∧ k ≤ 65536 ∧ Rd w' w'.heap.size A' k (partA xss n) ∧ Below w.heap.size w w' := by
  unfold partA
  by_cases h : 1 ≤ n ∧ n ≤ 65536
  · rw [if_pos h]
    obtain ⟨q, rfl⟩ : ∃ q : Nat, n = q := ⟨n.toNat, by omega⟩
    refine (rpart_c q A m c xss w hR (by omega) (by omega) hm hl).mono ?_
    rintro e w' ⟨A', c', rfl, ho, hb⟩
    exact ⟨A', q, c', rfl, by omega, by rw [Int.toNat_natCast]; exact ho.rd, hb⟩
  · rw [if_neg h]
    refine (rpart_nil n A m c w (by omega)).mono ?_
    rintro e w' ⟨rfl, rfl⟩
    exact ⟨none, 0, 0, rfl, by omega, Rd.nil, Below.refl _ _⟩
theorem fews_len (xss : List (List Int)) (k : Nat) : ∀ xs ∈ fews xss k, xs.length ≤ 1000 := by
  intro xs h
  obtain ⟨ys, _, rfl⟩ := List.mem_map.1 h
  rw [List.length_take]; omega

/-- What an argument that is a slice of slices of ints reads as. -/
def IsRows (w : World) (a : Option Addr) (len cap : Nat) (xss : List (List Int)) : Prop := Rds w w.heap.size a len xss ∧ len ≤ cap ∧ cap ≤ 9223372036854775807
theorem addr_plain {w : World} {x : Addr} {v : Value} (h : w.cell? (x.add 0) = some v) : ∃ b o, x = ⟨b, o, none⟩ ∧ b < w.heap.size := by
  obtain ⟨b, o, sp⟩ := x
  have hsp : sp = none := by
    cases sp with
    | none => rfl
    | some s =>
      simp [Addr.add, World.cell?] at h
      split at h <;> simp_all
  subst hsp
  refine ⟨b, o, rfl, ?_⟩
  simp only [Addr.add, if_true] at h
  unfold World.cell? at h
  rcases Nat.lt_or_ge b w.heap.size with hlt | hge
  · exact hlt
  · rw [Array.getElem?_eq_none hge] at h; simp at h
theorem add_plain (b o i : Nat) : (⟨b, o, none⟩ : Addr).add i = ⟨b, o + i, none⟩ := by
  unfold Addr.add; split
  · rename_i h; subst h; rfl
  · rfl
theorem rows_open {H : Type} {enc : TypeId × Value → H} {w : World} {base fuel : Nat} {held : Bool} {a : Option Addr} {len cap : Nat} {x : DataW H × List MemPlace}
    (h : DataW.trod enc Try.prog w base (fun _ => true) held fuel 37 (Value.slice a len cap).cells.toList = some x) : ∃ xss, IsRows w a len cap xss := by
  rcases Deep.open_int_rows Try.underlying37 Try.underlying22 Try.underlying3 (by kernel_rfl) (by kernel_rfl) h with ⟨hcs, _⟩ | ⟨ad, l, c, A, L, C, Z, hcs, _, hl, hm, _, hr⟩
  · simp [Value.cells] at hcs
    obtain ⟨rfl, rfl, rfl⟩ := hcs
    exact ⟨[], ⟨rfl, fun h => by omega⟩, by omega, by omega⟩
  · simp [Value.cells] at hcs
    obtain ⟨rfl, rfl, rfl⟩ := hcs
    refine ⟨(List.range len).map fun r => (Z r).take (L r), ⟨by simp, fun hn => ?_⟩, hl, by unfold maxLen at hm; omega⟩
    obtain ⟨b, o, rfl, hb0⟩ := addr_plain (hr 0 (by omega)).1
    refine ⟨b, o, rfl, hb0, fun i xs hx => ?_⟩
    have hi : i < len := by have := (List.getElem?_eq_some_iff.1 hx).1; simpa using this
    simp [hi] at hx
    subst hx
    obtain ⟨h1, h2, h3, h4, _, h6, h7⟩ := hr i (by omega)
    rw [add_plain] at h1
    refine ⟨A i, L i, C i, h1, ⟨by rw [List.length_take]; omega, fun hn2 => ?_⟩, h2, by unfold maxLen at h3; omega⟩
    cases hA : A i with
    | none => have := h6 hA; omega
    | some a' =>
      obtain ⟨_, h8⟩ := h7 a' hA
      obtain ⟨b', o', rfl, hb1⟩ := addr_plain (h8 0 (by omega))
      refine ⟨b', o', rfl, hb1, fun j y hy => ?_⟩
      rw [List.getElem?_take] at hy
      split at hy
      · have hj : j < (Z i).length := (List.getElem?_eq_some_iff.1 hy).1
        have := h8 j (by omega)
        rw [add_plain, getD_of hy] at this
        exact this
      · cases hy

set_option maxRecDepth 100000 in
set_option maxHeartbeats 2000000 in
theorem setsPartition_walk (a0 : Int) (a1 : Int) (a2 : Option Addr) (len2 cap2 : Nat) (xss : List (List Int)) (w : World) (_w0 : (Lit.int .u8 a0).wf = true) (_w1 : (Lit.int .i64 a1).wf = true) (w2 : IsRows w a2 len2 cap2 xss) :
    Calls Try.prog 5 #[.int .u8 a0, .int .i64 a1, .slice a2 len2 cap2] w fun e w' => e = .returned (.bool true) ∧ Below w.heap.size w w' := by
  obtain ⟨r0, hlc, hcm⟩ := w2
  go_enter Try.func5, Try.ntmps5
  go_wp2_with fail
  refine (lshown_c _).mono ?_
  rintro e w1 ⟨rfl, b1⟩
  have r1 := r0.call (Nat.le_refl _) b1
  clear r0
  go_wp2_with fail
  refine (rows_c _ _ _ _ _ r1 (by omega)).mono ?_
  rintro e w2 ⟨g, k, c, vs, rfl, hk, ho, hs, hb2⟩
  have b2 := below_call b1 hb2
  have r2 := rds_of ho hs
  have hl := fews_len xss 6
  have HL := Lib.hid hl
  clear hb2 b1 r1 ho hs hl
  generalize fews xss 6 = yss at *
  have c3 : (300 < a1 ∧ a1 ≤ 65536) ∨ a1 ≤ 300 ∨ 65536 < a1 := by omega
  have t300 : a1 ≤ 300 → decide (300 < a1) = false := fun h => by simp; omega
  rcases c3 with ⟨h1, h2⟩ | h1 | h1
  case' inr.inl => have t1 := t300 h1
  case' inr.inr => have t1 : 300 < a1 := by omega
  case' inr.inr => have t2 : decide (a1 ≤ 65536) = false := by simp; omega
  all_goals
    clear t300
    go_wp2_with fail
    refine (part_a _ _ _ _ _ _ r2 (by omega) HL.out).mono ?_
    rintro e w3 ⟨A3, m3, c3, rfl, hm3, q3, hb3⟩
    have b3 := below_call b2 hb3
    have r3 := r2.call (Nat.le_refl _) hb3
    clear b2 r2 hb3
    go_wp2_with fail
    refine (rpart_a _ _ _ _ _ _ r3 (by omega) HL.out).mono ?_
    rintro e w4 ⟨A4, m4, c4, rfl, hm4, q4, hb4⟩
    have b4 := below_call b3 hb4
    have r4 := r3.call (Nat.le_refl _) hb4
    have p4 := q3.call (Nat.le_refl _) hb4
    clear b3 r3 hb4 q3
    go_wp2_with fail
    refine (same_b _ _ _ _ _ _ _ _ _ p4 q4 (by omega) (by omega)).mono ?_
    rintro e w5 ⟨he, hb5⟩
    rw [decide_eq_true (by rfl)] at he
    subst he
    have b5 := below_call b4 hb5
    have r5 := r4.call (Nat.le_refl _) hb5
    clear b4 r4 hb5 p4 q4
    go_wp2_with fail
    refine (part_a _ _ _ _ _ _ r5 (by omega) HL.out).mono ?_
    rintro e w6 ⟨A6, m6, c6, rfl, hm6, q6, hb6⟩
    have b6 := below_call b5 hb6
    have r6 := r5.call (Nat.le_refl _) hb6
    clear b5 r5 hb6
    go_wp2_with fail
    refine (rpart_a _ _ _ _ _ _ r6 (by omega) HL.out).mono ?_
    rintro e w7 ⟨A7, m7, c7, rfl, hm7, q7, hb7⟩
    have b7 := below_call b6 hb7
    have p7 := q6.call (Nat.le_refl _) hb7
    clear b6 r6 hb7 q6
    go_wp2_with fail
    refine (same_b _ _ _ _ _ _ _ _ _ p7 q7 (by omega) (by omega)).mono ?_
    rintro e w8 ⟨he, hb8⟩
    rw [decide_eq_true (by rfl)] at he
    subst he
    have b8 := below_call b7 hb8
    go_wp2
    go_ret
    exact ⟨rfl, b8⟩

end Go.Proofs.Ytladdpfngoldcaa
