/- Words: one step of a region that draws its order, taken by hand. -/
import Derived.Test.YtgcmedkaadagmaaDoorProg
import Derived.WalkKit
import Derived.Deep.RegionHeld
namespace Go.Proofs.YtgcmedkaadagmaaDoor

section
variable {P : Program} {ops : Array Oper} {Q : Exit → Act → World → Prop} {md : Region.Mode} {S : World → Prop}
/-- Operation i is taken: its value goes to its slot, the slots laid open anew. -/
theorem tkB (i : Nat) {oi : Oper} {v : Value} {fuel : Nat} {listed : Array Bool} {l l' : List Value} {d : List Deferred} {k : Nat} {w : World} (hS : S w) (hy : ∀ w, S w → (execOp (Act.mk l.toArray d).eval oi).run P w = .ok (.value v) w) (h : wpAnyH P md ops Q S fuel (listed.setIfInBounds i true) ⟨l'.toArray, d⟩ w)
    (hi : ops[i]? = some oi := by simp only [List.getElem?_toArray]; rfl) (hk : oi.dst = some k := by rfl) (hl : l.set k v = l' := by simp only [List.set_cons_zero, List.set_cons_succ]; rfl) (hs : Region.noSelect ops = true := by kernel_rfl) (hf : Region.free md ops listed i = true := by kernel_rfl) (hr : (Region.ready md ops listed).contains i = true := by kernel_rfl)
    (hQ : ∀ c a w, Q (.panic c) (a.put oi.dst v) w → Q (.panic c) a w := by exact fun _ _ _ h => h) (hw : Region.wanted oi (yielded ops l.toArray) = true := by rfl) : wpAnyH P md ops Q S (fuel + 1) listed ⟨l.toArray, d⟩ w := by
  refine wpAnyH_take hi hs hf hr hQ (Or.inl ⟨hw, hy⟩) hS ?_
  rw [hk]
  show wpAnyH P md ops Q S fuel (listed.setIfInBounds i true) ⟨l.toArray.setIfInBounds k v, d⟩ w
  have e : l.toArray.setIfInBounds k v = l'.toArray := by rw [List.setIfInBounds_toArray, hl]
  rw [e]
  exact h
/-- Operation i is passed over: nobody wants it. -/
theorem skB (i : Nat) {oi : Oper} {fuel : Nat} {listed : Array Bool} {l l' : List Value} {d : List Deferred} {k : Nat} {w : World} (hS : S w) (h : wpAnyH P md ops Q S fuel (listed.setIfInBounds i true) ⟨l'.toArray, d⟩ w)
    (hi : ops[i]? = some oi := by simp only [List.getElem?_toArray]; rfl) (hk : oi.dst = some k := by rfl) (hl : l.set k undef = l' := by simp only [List.set_cons_zero, List.set_cons_succ]; rfl) (hs : Region.noSelect ops = true := by kernel_rfl) (hf : Region.free md ops listed i = true := by kernel_rfl) (hr : (Region.ready md ops listed).contains i = true := by kernel_rfl)
    (hQ : ∀ c a w, Q (.panic c) (a.put oi.dst undef) w → Q (.panic c) a w := by exact fun _ _ _ h => h) (hw : Region.wanted oi (yielded ops l.toArray) = false := by rfl) : wpAnyH P md ops Q S (fuel + 1) listed ⟨l.toArray, d⟩ w := by
  refine wpAnyH_take (v := undef) hi hs hf hr hQ (Or.inr ⟨hw, rfl⟩) hS ?_
  rw [hk]
  show wpAnyH P md ops Q S fuel (listed.setIfInBounds i true) ⟨l.toArray.setIfInBounds k undef, d⟩ w
  have e : l.toArray.setIfInBounds k undef = l'.toArray := by rw [List.setIfInBounds_toArray, hl]
  rw [e]
  exact h
end

end Go.Proofs.YtgcmedkaadagmaaDoor
