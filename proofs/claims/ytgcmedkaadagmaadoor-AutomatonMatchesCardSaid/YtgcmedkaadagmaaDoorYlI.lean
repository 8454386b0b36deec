/- Words: the rules that are made are few; what Build tells. -/
import Derived.Test.YtgcmedkaadagmaaDoorY7
import Derived.Test.YtgcmedkaadagmaaDoorB2
import Derived.Test.YtgcmedkaadagmaaDoorB3
import Derived.Test.YtgcmedkaadagmaaDoorL4
namespace Go.Proofs.YtgcmedkaadagmaaDoor
open Go.RowKit Go.Shelf Go.Maps
theorem and16 (z : Int) : bits .and .i64 z 65535 = z % 65536 := by
 show IntKind.i64.wrap ((BitVec.ofInt 64 z &&& BitVec.ofInt 64 (65535 : Int)).toNat : Int) = _
 have e2 : (BitVec.ofInt 64 (65535 : Int)).toNat = 65535 := by decide
 rw [BitVec.toNat_and, e2, IntKind.wrap_i64]
 have h : (BitVec.ofInt 64 z).toNat &&& 65535 = (BitVec.ofInt 64 z).toNat % 65536 := Nat.and_two_pow_sub_one_eq_mod _ 16
 rw [h, BitVec.toNat_ofInt]
 omega
theorem ow_none (e k : Nat) (w : World) (base : Nat) (hb : base ≤ w.heap.size) : Ow e k (w.alloc (.cells #[] e)) base (some ⟨w.heap.size, 0, none⟩) 0 0 [] :=
 ⟨by simp, .inr ⟨w.heap.size, 0, #[], rfl, hb, heap_alloc_new w _, Nat.le_refl _, by unfold maxLen; omega, by simp, by simp⟩⟩
theorem built_none {F : Fnt} {k er : Int} (h : buildL F k = (none, er)) : er = 1 ∨ er = 2 := by
 unfold buildL at h
 split at h
 ·injection h with _ h; omega
 ·split at h
  ·injection h with _ h; omega
  ·split at h
   ·injection h with _ h; omega
   ·split at h
    ·injection h with h _; cases h
    ·injection h with _ h; omega
theorem built_some {F : Fnt} {k er : Int} {a : Au} (h : buildL F k = (some a, er)) : ∃ lk, lkAt F k = some lk ∧ 1 ≤ F.gly.length ∧ F.gly.length ≤ 65536 ∧ lk.rules.length ≤ 64 ∧ autoL lk.rules F.gly.length = some a ∧ er = 0 := by
 unfold buildL at h
 split at h
 ·injection h with h _; cases h
 ·rename_i lk hlk
  split at h
  ·injection h with h _; cases h
  ·split at h
   ·injection h with h _; cases h
   ·split at h
    ·rename_i h1 h2 _ h3
     injection h with h4 h5
     injection h4 with h4
     subst h4
     exact ⟨lk, hlk, by omega, by omega, by omega, h3, h5.symm⟩
    ·injection h with h _; cases h
theorem flat_made_p {rs : List Rul} (h : ∀ u ∈ rs, RulB u) : (setsL rs).length ≤ rs.length * 7 := by
 induction rs with
 | nil => exact Nat.zero_le _
 | cons r rs ih =>
  have h1 := ih fun u hu => h u (List.mem_cons_of_mem _ hu)
  have h2 := h r List.mem_cons_self
  unfold setsL at h1 ⊢
  rw [List.flatMap_cons, List.length_append, List.length_append, List.length_append, List.length_cons]
  have := h2.b
  have := h2.i
  have := h2.a
  omega
theorem LkB.smB {l : Lk} (h : LkB l) : SmB l.rules := by
 have h1 := flat_made_p h.r
 have h2 := h.n
 refine ⟨by omega, by omega, fun s hs => ?_⟩
 unfold setsL at hs
 obtain ⟨u, hu, hs⟩ := List.mem_flatMap.1 hs
 have := (h.r u hu).l s hs
 omega
theorem lk_small {F : Fnt} (h : ∀ l ∈ F.lks, LkB l) (k : Int) : ∀ lk, lkAt F k = some lk → lk.rules.length ≤ 64 → SmB lk.rules := fun lk hl _ => by
 unfold lkAt at hl
 split at hl
 ·cases hl
 ·exact (h lk (List.mem_of_getElem? hl)).smB
theorem rd_takep {w : World} {S : Nat → Prop} {A : Option Addr} {n m k : Nat} {xs : List Int} (h : Rd w S A n xs) (hm : m = min n k) : Rd w S A m (xs.take k) := by
 have h1 : Rd w S A m (xs.take m) := SlE.take h m (by omega)
 have h2 : xs.take m = xs.take k := by
  have h3 := h.len
  by_cases h4 : k ≤ n
  ·rw [show m = k by omega]
  ·rw [List.take_of_length_le (by omega), List.take_of_length_le (by omega)]
 rwa [h2] at h1
end Go.Proofs.YtgcmedkaadagmaaDoor
