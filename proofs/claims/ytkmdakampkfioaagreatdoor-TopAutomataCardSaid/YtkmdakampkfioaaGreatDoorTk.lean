/- Words: one step of a region that draws its order, taken by hand. -/
import Derived.Test.YtkmdakampkfioaaGreatDoorProg
import Derived.WalkKit
import Derived.Deep.RegionHeld
namespace Go.Proofs.YtkmdakampkfioaaGreatDoor
section
variable {P : Program} {ops : Array Oper} {Q : Exit → Act → World → Prop} {md : Region.Mode} {S : World → Prop}
theorem tkB (i : Nat) {oi : Oper} {v : Value} {fuel : Nat} {listed : Array Bool} {l l' : List Value} {d : List Deferred} {k : Nat} {w : World} (hS : S w) (hy : ∀ w, S w → (execOp (Act.mk l.toArray d).eval oi).run P w = .ok (.value v) w) (h : wpAnyH P md ops Q S fuel (listed.setIfInBounds i true) ⟨l'.toArray, d⟩ w)
    (hi : ops[i]? = some oi := by simp only [List.getElem?_toArray]; rfl) (hk : oi.dst = some k := by rfl) (hl : l.set k v = l' := by simp only [List.set_cons_zero, List.set_cons_succ]; rfl) (hs : Region.noSelect ops = true := by kernel_rfl) (hf : Region.free md ops listed i = true := by kernel_rfl) (hr : (Region.ready md ops listed).contains i = true := by kernel_rfl)
    (hQ : ∀ c a w, Q (.panic c) (a.put oi.dst v) w → Q (.panic c) a w := by exact fun _ _ _ h => h) (hw : Region.wanted oi (yielded ops l.toArray) = true := by rfl) : wpAnyH P md ops Q S (fuel + 1) listed ⟨l.toArray, d⟩ w := by
  refine wpAnyH_take hi hs hf hr hQ (Or.inl ⟨hw, hy⟩) hS ?_;rw [hk];show wpAnyH P md ops Q S fuel (listed.setIfInBounds i true) ⟨l.toArray.setIfInBounds k v, d⟩ w
  have e : l.toArray.setIfInBounds k v = l'.toArray := by rw [List.setIfInBounds_toArray, hl]
  rw [e];exact h
theorem skB (i : Nat) {oi : Oper} {fuel : Nat} {listed : Array Bool} {l l' : List Value} {d : List Deferred} {k : Nat} {w : World} (hS : S w) (h : wpAnyH P md ops Q S fuel (listed.setIfInBounds i true) ⟨l'.toArray, d⟩ w)
    (hi : ops[i]? = some oi := by simp only [List.getElem?_toArray]; rfl) (hk : oi.dst = some k := by rfl) (hl : l.set k undef = l' := by simp only [List.set_cons_zero, List.set_cons_succ]; rfl) (hs : Region.noSelect ops = true := by kernel_rfl) (hf : Region.free md ops listed i = true := by kernel_rfl) (hr : (Region.ready md ops listed).contains i = true := by kernel_rfl)
    (hQ : ∀ c a w, Q (.panic c) (a.put oi.dst undef) w → Q (.panic c) a w := by exact fun _ _ _ h => h) (hw : Region.wanted oi (yielded ops l.toArray) = false := by rfl) : wpAnyH P md ops Q S (fuel + 1) listed ⟨l.toArray, d⟩ w := by
  refine wpAnyH_take (v := undef) hi hs hf hr hQ (Or.inr ⟨hw, rfl⟩) hS ?_;rw [hk];show wpAnyH P md ops Q S fuel (listed.setIfInBounds i true) ⟨l.toArray.setIfInBounds k undef, d⟩ w
  have e : l.toArray.setIfInBounds k undef = l'.toArray := by rw [List.setIfInBounds_toArray, hl]
  rw [e];exact h
theorem tkC (i : Nat) {oi : Oper} {v : Value} {fuel : Nat} {listed : Array Bool} {l l' : List Value} {d : List Deferred} {k : Nat} {w : World} (h : wpAnyH P md ops Q S fuel (listed.setIfInBounds i true) ⟨l'.toArray, d⟩ w)
    (hi : ops[i]? = some oi := by simp only [List.getElem?_toArray]; rfl) (hk : oi.dst = some k := by rfl) (hS : S w := by assumption) (hy : ∀ w, S w → (execOp (Act.mk l.toArray d).eval oi).run P w = .ok (.value v) w := by intro w hSw; (try dsimp only at hSw); go_simp; try with_reducible rfl) (hl : l.set k v = l' := by simp only [List.set_cons_zero, List.set_cons_succ]; rfl) (hs : Region.noSelect ops = true := by kernel_rfl) (hf : Region.free md ops listed i = true := by kernel_rfl) (hr : (Region.ready md ops listed).contains i = true := by kernel_rfl)
    (hQ : ∀ c a w, Q (.panic c) (a.put oi.dst v) w → Q (.panic c) a w := by exact fun _ _ _ h => h) (hw : Region.wanted oi (yielded ops l.toArray) = true := by rfl) : wpAnyH P md ops Q S (fuel + 1) listed ⟨l.toArray, d⟩ w :=
  tkB i hS hy h hi hk hl hs hf hr hQ hw
theorem skC (i : Nat) {oi : Oper} {fuel : Nat} {listed : Array Bool} {l l' : List Value} {d : List Deferred} {k : Nat} {w : World} (h : wpAnyH P md ops Q S fuel (listed.setIfInBounds i true) ⟨l'.toArray, d⟩ w) (hS : S w := by assumption)
    (hi : ops[i]? = some oi := by simp only [List.getElem?_toArray]; rfl) (hk : oi.dst = some k := by rfl) (hl : l.set k undef = l' := by simp only [List.set_cons_zero, List.set_cons_succ]; rfl) (hs : Region.noSelect ops = true := by kernel_rfl) (hf : Region.free md ops listed i = true := by kernel_rfl) (hr : (Region.ready md ops listed).contains i = true := by kernel_rfl)
    (hQ : ∀ c a w, Q (.panic c) (a.put oi.dst undef) w → Q (.panic c) a w := by exact fun _ _ _ h => h) (hw : Region.wanted oi (yielded ops l.toArray) = false := by rfl) : wpAnyH P md ops Q S (fuel + 1) listed ⟨l.toArray, d⟩ w :=
  skB i hS h hi hk hl hs hf hr hQ hw
theorem rd1 (i : Nat) {o : Oper} {fuel : Nat} {listed : Array Bool} {a : Act} {w : World} (h : ∀ K' : Act → World → Prop, Shut (∀ a w, S w → (S w → wpAnyH P md ops Q S fuel (listed.setIfInBounds i true) a w) → K' a w) → if Region.wanted o (yielded ops a.tmps) = true then Oper.wp P o a w K' Q else K' (a.put o.dst undef) w)
    (hi : ops[i]? = some o := by simp only [List.getElem?_toArray]; rfl) (hr : Region.ready md ops listed = [i] := by kernel_rfl) : wpAnyH P md ops Q S (fuel + 1) listed a w :=
  wpAnyH_ready hr (List.cons_ne_nil _ _) (AllReadyH.cons hi h AllReadyH.nil)
theorem rd2 (i j : Nat) {o p : Oper} {fuel : Nat} {listed : Array Bool} {a : Act} {w : World} (h : ∀ K' : Act → World → Prop, Shut (∀ a w, S w → (S w → wpAnyH P md ops Q S fuel (listed.setIfInBounds i true) a w) → K' a w) → if Region.wanted o (yielded ops a.tmps) = true then Oper.wp P o a w K' Q else K' (a.put o.dst undef) w)
    (h2 : ∀ K' : Act → World → Prop, Shut (∀ a w, S w → (S w → wpAnyH P md ops Q S fuel (listed.setIfInBounds j true) a w) → K' a w) → if Region.wanted p (yielded ops a.tmps) = true then Oper.wp P p a w K' Q else K' (a.put p.dst undef) w)
    (hi : ops[i]? = some o := by simp only [List.getElem?_toArray]; rfl) (hj : ops[j]? = some p := by simp only [List.getElem?_toArray]; rfl) (hr : Region.ready md ops listed = [i, j] := by kernel_rfl) : wpAnyH P md ops Q S (fuel + 1) listed a w :=
  wpAnyH_ready hr (List.cons_ne_nil _ _) (AllReadyH.cons hi h (AllReadyH.cons hj h2 AllReadyH.nil))
theorem rd3 (i j n : Nat) {o p q : Oper} {fuel : Nat} {listed : Array Bool} {a : Act} {w : World} (h : ∀ K' : Act → World → Prop, Shut (∀ a w, S w → (S w → wpAnyH P md ops Q S fuel (listed.setIfInBounds i true) a w) → K' a w) → if Region.wanted o (yielded ops a.tmps) = true then Oper.wp P o a w K' Q else K' (a.put o.dst undef) w)
    (h2 : ∀ K' : Act → World → Prop, Shut (∀ a w, S w → (S w → wpAnyH P md ops Q S fuel (listed.setIfInBounds j true) a w) → K' a w) → if Region.wanted p (yielded ops a.tmps) = true then Oper.wp P p a w K' Q else K' (a.put p.dst undef) w)
    (h3 : ∀ K' : Act → World → Prop, Shut (∀ a w, S w → (S w → wpAnyH P md ops Q S fuel (listed.setIfInBounds n true) a w) → K' a w) → if Region.wanted q (yielded ops a.tmps) = true then Oper.wp P q a w K' Q else K' (a.put q.dst undef) w)
    (hi : ops[i]? = some o := by simp only [List.getElem?_toArray]; rfl) (hj : ops[j]? = some p := by simp only [List.getElem?_toArray]; rfl) (hn : ops[n]? = some q := by simp only [List.getElem?_toArray]; rfl) (hr : Region.ready md ops listed = [i, j, n] := by kernel_rfl) : wpAnyH P md ops Q S (fuel + 1) listed a w :=
  wpAnyH_ready hr (List.cons_ne_nil _ _) (AllReadyH.cons hi h (AllReadyH.cons hj h2 (AllReadyH.cons hn h3 AllReadyH.nil)))
theorem wy {c A B : Prop} [Decidable c] (a : A) (h : c := by kernel_rfl) : if c then A else B := by rw [if_pos h]; exact a
theorem hkG {fuel : Nat} {li : Array Bool} {K' : Act → World → Prop} {l l' : List Value} {d : List Deferred} {k : Nat} {v : Value} {w : World} (hK : Shut (∀ a w, S w → (S w → wpAnyH P md ops Q S fuel li a w) → K' a w)) (hS : S w) (h : S w → wpAnyH P md ops Q S fuel li ⟨l'.toArray, d⟩ w)
    (hl : l.set k v = l' := by simp only [List.set_cons_zero, List.set_cons_succ]; rfl) : K' (Act.put ⟨l.toArray, d⟩ (some k) v) w := by
  refine hK.out _ _ hS fun hs => ?_;show wpAnyH P md ops Q S fuel li ⟨l.toArray.setIfInBounds k v, d⟩ w
  have e : l.toArray.setIfInBounds k v = l'.toArray := by rw [List.setIfInBounds_toArray, hl]
  rw [e];exact h hs
theorem dn {fuel : Nat} {listed : Array Bool} {a : Act} {w : World} (h : Q .normal a w) (hr : Region.ready md ops listed = [] := by kernel_rfl) : wpAnyH P md ops Q S fuel listed a w := wpAnyH_done hr h fuel
theorem ry (i : Nat) {o : Oper} {fuel : Nat} {listed : Array Bool} {a : Act} {w : World} (h : ∀ K' : Act → World → Prop, Shut (∀ a w, S w → (S w → wpAnyH P md ops Q S fuel (listed.setIfInBounds i true) a w) → K' a w) → Oper.wp P o a w K' Q)
 (hi : ops[i]? = some o := by simp only [List.getElem?_toArray]; rfl) (hr : Region.ready md ops listed = [i] := by kernel_rfl) (hw : Region.wanted o (yielded ops a.tmps) = true := by kernel_rfl) : wpAnyH P md ops Q S (fuel + 1) listed a w := rd1 i (fun K hK => wy (h K hK) hw) hi hr
end
end Go.Proofs.YtkmdakampkfioaaGreatDoor
