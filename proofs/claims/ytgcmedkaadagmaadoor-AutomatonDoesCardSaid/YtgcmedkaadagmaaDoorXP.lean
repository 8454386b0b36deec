/- Plain words: the document's automaton, and the one that is built; whether an automaton does what the rules say, the document's way. -/
import Derived.Test.YtgcmedkaadagmaaDoorX0
namespace Go.Proofs.YtgcmedkaadagmaaDoor

section
variable {α : Type} [DecidableEq α] {I : α → Prop} {nx : α → Nat → Option α} {K : Nat}
theorem rowL_inv (hI : ∀ a c q, c < K → I a → nx a c = some q → I q) {src : α} {met : List α} (hs : I src) (hm : ∀ q ∈ met, I q) : ∀ c, c ≤ K → ∀ q ∈ (rowL nx src met c).2, I q
 | 0, _ => hm
 | c + 1, hc => by
  have h2 := rowL_inv hI hs hm c (by omega)
  rw [rowL]
  cases hq : nx src c with
  | none => exact h2
  | some q => exact meetL_inv h2 (hI src c q (by omega) hs hq)
theorem statesL_inv (hI : ∀ a c q, c < K → I a → nx a c = some q → I q) : ∀ (f n : Nat) (met : List α) (tab : List (List Int)), (∀ q ∈ met, I q) → ∀ r, statesL nx K f n met tab = some r → ∀ q ∈ r.2, I q
 | 0, _, _, _, _, r, hr => by simp [statesL] at hr
 | f + 1, n, met, tab, hm, r, hr => by
  rw [statesL] at hr
  cases hs : met[n]? with
  | none => rw [hs] at hr; injection hr with hr; subst hr; exact hm
  | some src =>
   rw [hs] at hr
   dsimp only at hr
   split at hr
   ·cases hr
   ·exact statesL_inv hI f (n + 1) _ _ (rowL_inv hI (hm src (List.mem_of_getElem? hs)) hm K (Nat.le_refl _)) r hr
end
theorem nxD_good {back : Bool} {rs : List Rul} (hs : SmB rs) {gs : List Int} {a q : Nat × List Nat} {c : Nat} (ha : GoodS back rs a ∧ a.1 ≤ 100) (h : nxD (rowsD back rs) gs a c = some q) : GoodS back rs q ∧ q.1 ≤ 100 := by
 unfold nxD at h
 split at h
 ·cases h
 ·rename_i hne
  injection h with h
  subst h
  have h1 := behindD_met ha.1 hs hne
  exact ⟨behindD_good ha.1 _ (by have := ha.2; omega), h1⟩
theorem nxD_rows {back : Bool} {rs : List Rul} {gs : List Int} {a : Nat × List Nat} {c : Nat} (ha : AllHas back rs a.2) : nxD (rowsD back rs) gs a c = nxD (rowsF (kindF back) rs) gs a c := by
 unfold nxD
 have h := behindD_rows (m := a.1) ha (gs.getD c 0)
 rw [show behindD (rowsD back rs) a (gs.getD c 0) = behindD (rowsF (kindF back) rs) a (gs.getD c 0) from h]
theorem allD_rows (back : Bool) (rs : List Rul) (gs : List Int) (K : Nat) : allL (nxD (rowsD back rs) gs) K (firstD back rs) = allL (nxD (rowsF (kindF back) rs) gs) K (firstD back rs) := by
 have h := statesL_map (φ := fun (s : Nat × List Nat) => s) (I := fun s => AllHas back rs s.2) (nx := nxD (rowsF (kindF back) rs) gs) (nx' := nxD (rowsD back rs) gs) (K := K) (fun a b _ _ h => h) (fun a c q _ ha h => ?_) (fun a c _ ha => ?_) 20002 0 [firstD back rs] [] (fun q hq => ?_)
 ·unfold allL
  simp only [List.map_cons, List.map_nil, List.map_id'] at h
  rw [h]
  cases statesL (nxD (rowsF (kindF back) rs) gs) K 20002 0 [firstD back rs] [] <;> rfl
 ·unfold nxD at h
  split at h
  ·cases h
  ·injection h with h; subst h; exact behindD_has ha _
 ·rw [nxD_rows ha]
  cases nxD (rowsF (kindF back) rs) gs a c <;> rfl
 ·rw [List.mem_singleton] at hq; subst hq; exact firstD_has back rs
theorem endsD_rows' {back : Bool} {rs : List Rul} {s : Nat × List Nat} (h : AllHas back rs s.2) : endsD (rowsD back rs) s = endsD (rowsF (kindF back) rs) s := endsD_rows (m := s.1) h
/-- The document's states: those of the half that is built. -/
theorem docHalf {back : Bool} {rs : List Rul} {n : Nat} {x : List (List Int) × List (Nat × Nat)} (hs : SmB rs) (h : halfL (kindF back) rs n = some x) :
  ∃ y, allL (nxD (rowsD back rs) (repG rs n)) (KL rs n) (firstD back rs) = some y ∧ y.1 = x.1 ∧ y.2.map (endsD (rowsD back rs)) = x.2.map (endsP (rowsF (kindF back) rs)) := by
 have h1 := allD_half back rs n
 rw [← allD_rows, h] at h1
 refine ⟨_, h1, rfl, ?_⟩
 have h2 := statesL_inv (I := fun s => GoodS back rs s ∧ s.1 ≤ 100) (K := KL rs n) (fun a c q _ ha h => nxD_good hs ha h) 20002 0 [firstD back rs] [] (fun q hq => by rw [List.mem_singleton] at hq; subst hq; exact ⟨firstD_good back rs, by unfold firstD; exact Nat.zero_le _⟩) _ h1
 rw [← map_endsD]
 exact List.map_congr_left fun s hs => endsD_rows' (h2 s hs).1.has

/-- A state and a state of an automaton, the document's way. -/
abbrev DS := (Nat × List Nat) × Int
def stepD (rows : List (List (List Int))) (acls : List Int) (tab : List (List Int)) (x : DS) (g : Int) : DS := (normD (behindD rows x.1 g), stepA acls tab x.2 g)
def dueD (rows : List (List (List Int))) (x : DS) : Nat := endsD rows x.1
def bitD (ends : List Nat) (x : DS) : Nat := bitsA ends x.2
def psi (k : Nat) (x : PS) : DS := (phi k x.1, x.2)
section
variable {back : Bool} {rs : List Rul} {n : Nat} {acls : List Int} {tab : List (List Int)} {ends : List Nat}
/-- Rules that have a row. -/
def SubH (back : Bool) (rs : List Rul) (p : Nat × Nat) : Prop := p.2 < 2 ^ (rowsF (kindF back) rs).length ∧ AllHas back rs (listOf p.2 (rowsF (kindF back) rs).length)
theorem subH_and {p : Nat × Nat} (h : SubH back rs p) (m b : Nat) : SubH back rs (m, p.2 &&& b) := by
 refine ⟨and_lt_left _ h.1, fun i hi => h.2 i ?_⟩
 rw [listOf_mem] at hi ⊢
 rw [Nat.testBit_and, Bool.and_eq_true] at hi
 exact ⟨hi.1, hi.2.1⟩
theorem subH_zero (back : Bool) (rs : List Rul) (m : Nat) : SubH back rs (m, 0) := ⟨Nat.two_pow_pos _, fun i hi => by rw [listOf_zero] at hi; cases hi⟩
theorem subH_step {p : Nat × Nat} (h : SubH back rs p) (cls : List Int) (g : Int) : SubH back rs (stepP (rowsF (kindF back) rs) cls p g) := by
 unfold stepP behindP
 split
 ·exact subH_zero _ _ _
 ·exact subH_and h _ _
theorem subH_first (back : Bool) (rs : List Rul) : SubH back rs (0, hvF (kindF back) rs rs.length) := by
 refine ⟨hv_lt back rs, ?_⟩
 have h := firstD_has back rs
 rw [firstD_phi] at h
 exact h
theorem stepD_psi {x : PS} (h : SubH back rs x.1) {g : Int} (h0 : 0 ≤ g) (h1 : g < (n : Int)) : stepD (rowsD back rs) acls tab (psi (rowsF (kindF back) rs).length x) g = psi (rowsF (kindF back) rs).length (stepQ (rowsF (kindF back) rs) (clsL rs n) acls tab x g) := by
 unfold stepD psi stepQ
 dsimp only
 refine Prod.ext ?_ rfl
 dsimp only
 rw [← normD_phi (cls_ok back rs n) (clsL_gly rs n) h.1 h0 (by rw [clsL_len]; exact h1)]
 exact congrArg normD (behindD_rows (m := x.1.1) h.2 g)
theorem dueD_psi {x : PS} (h : SubH back rs x.1) : dueD (rowsD back rs) (psi (rowsF (kindF back) rs).length x) = dueQ (rowsF (kindF back) rs) x := by
 unfold dueD dueQ
 rw [← endsD_eq]
 exact endsD_rows (m := x.1.1) h.2
theorem runD_psi : ∀ (w : List Int) (x : PS), SubH back rs x.1 → (∀ g ∈ w, 0 ≤ g ∧ g < (n : Int)) →
  runB (stepD (rowsD back rs) acls tab) (dueD (rowsD back rs)) (psi (rowsF (kindF back) rs).length x) w = runB (stepQ (rowsF (kindF back) rs) (clsL rs n) acls tab) (dueQ (rowsF (kindF back) rs)) x w ∧
  runB (stepD (rowsD back rs) acls tab) (bitD ends) (psi (rowsF (kindF back) rs).length x) w = runB (stepQ (rowsF (kindF back) rs) (clsL rs n) acls tab) (bitQ ends) x w ∧
  runS (stepD (rowsD back rs) acls tab) (psi (rowsF (kindF back) rs).length x) w = psi (rowsF (kindF back) rs).length (runS (stepQ (rowsF (kindF back) rs) (clsL rs n) acls tab) x w)
 | [], x, h, _ => ⟨dueD_psi h, rfl, rfl⟩
 | g :: w, x, h, hw => by
  have hg := hw g (List.mem_cons_self ..)
  have e := stepD_psi (acls := acls) (tab := tab) h hg.1 hg.2
  obtain ⟨h1, h2, h3⟩ := runD_psi w (stepQ (rowsF (kindF back) rs) (clsL rs n) acls tab x g) (subH_step h _ g) (fun y hy => hw y (List.mem_cons_of_mem _ hy))
  refine ⟨?_, ?_, ?_⟩
  ·rw [runB, runB, e, h1, dueD_psi h]
  ·rw [runB, runB, e, h2]; rfl
  ·rw [runS, runS, e, h3]
theorem psi_first (back : Bool) (rs : List Rul) : psi (rowsF (kindF back) rs).length ((0, hvF (kindF back) rs rs.length), 0) = (firstD back rs, 0) := by
 unfold psi; rw [firstD_phi]
/-- The document's way is right. -/
theorem doc_agr : Agr (stepD (rowsD back rs) acls tab) (dueD (rowsD back rs)) (bitD ends) (glyL n) (firstD back rs, 0) ↔ HalfOK (rowsF (kindF back) rs) (clsL rs n) (0, hvF (kindF back) rs rs.length) acls tab ends n := by
 unfold HalfOK Agr
 rw [← psi_first]
 constructor
 ·intro h w hw
  obtain ⟨h1, h2, _⟩ := runD_psi (n := n) (acls := acls) (tab := tab) (ends := ends) w ((0, hvF (kindF back) rs rs.length), (0 : Int)) (subH_first back rs) (fun g hg => glyL_mem.1 (hw g hg))
  rw [← h1, ← h2]; exact h w hw
 ·intro h w hw
  obtain ⟨h1, h2, _⟩ := runD_psi (n := n) (acls := acls) (tab := tab) (ends := ends) w ((0, hvF (kindF back) rs rs.length), (0 : Int)) (subH_first back rs) (fun g hg => glyL_mem.1 (hw g hg))
  rw [h1, h2]; exact h w hw
theorem runQ_mem {met : List (Nat × Nat)} {mtab : List (List Int)} (hst : StOK (nxP (rowsF (kindF back) rs) (clsL rs n)) (KL rs n) (0, hvF (kindF back) rs rs.length) met.length met mtab) : ∀ (w : List Int) (x : PS), x ∈ allQ met tab.length → (∀ g ∈ w, 0 ≤ g ∧ g < (n : Int)) → runS (stepQ (rowsF (kindF back) rs) (clsL rs n) acls tab) x w ∈ allQ met tab.length
 | [], x, hx, _ => hx
 | _ :: w, x, hx, hw => by
  have hg := hw _ (List.mem_cons_self ..)
  exact runQ_mem hst w _ (allQ_step hst (clsL_gly rs n) hg.1 (by rw [clsL_len]; exact hg.2) hx) (fun y hy => hw y (List.mem_cons_of_mem _ hy))
theorem runB_lt {σ : Type} {step : σ → Int → σ} {out : σ → Nat} {k : Nat} (h : ∀ x, out x < 2 ^ k) : ∀ (w : List Int) (x : σ), runB step out x w < 2 ^ k
 | [], x => h x
 | _ :: w, x => Nat.or_lt_two_pow (h x) (runB_lt h w _)
theorem runQ_lt (w : List Int) (x : PS) : runB (stepQ (rowsF (kindF back) rs) (clsL rs n) acls tab) (dueQ (rowsF (kindF back) rs)) x w < 2 ^ (rowsF (kindF back) rs).length := by
 refine runB_lt (fun y => ?_) w x
 unfold dueQ endsP
 exact Nat.lt_of_le_of_lt Nat.and_le_right (bitsOf_lt _ _)
/-- The pairs that come together are not many. -/
theorem doc_few {met : List (Nat × Nat)} {mtab : List (List Int)} (hst : StOK (nxP (rowsF (kindF back) rs) (clsL rs n)) (KL rs n) (0, hvF (kindF back) rs rs.length) met.length met mtab) {all : List (DS × Nat)} {i : Nat} {dn : List Int} (h : DoI (stepD (rowsD back rs) acls tab) (dueD (rowsD back rs)) (bitD ends) (glyL n) (firstD back rs, 0) all i dn) :
  all.length ≤ (met.length + 1) * (tab.length + 2) * 2 ^ rs.length := by
 have hsub : ∀ x ∈ all, x ∈ (allT met tab.length (2 ^ rs.length)).map fun y => (psi (rowsF (kindF back) rs).length y.1, y.2) := fun x hx => by
  obtain ⟨w, hw, e, _⟩ := h.come x hx
  obtain ⟨h1, _, h3⟩ := runD_psi (n := n) (acls := acls) (tab := tab) (ends := ends) w ((0, hvF (kindF back) rs rs.length), (0 : Int)) (subH_first back rs) (fun g hg => glyL_mem.1 (hw g hg))
  rw [← psi_first, h1, h3] at e
  rw [e]
  refine List.mem_map.2 ⟨(_, _), allT_mem.2 ⟨runQ_mem hst w _ (allQ_start hst) (fun g hg => glyL_mem.1 (hw g hg)), ?_⟩, rfl⟩
  have := runQ_lt (back := back) (rs := rs) (n := n) (acls := acls) (tab := tab) w ((0, hvF (kindF back) rs rs.length), (0 : Int))
  rwa [rowsF_len] at this
 have h1 := nodup_len h.nd hsub
 rwa [List.length_map, allT_len] at h1
end

end Go.Proofs.YtgcmedkaadagmaaDoor
