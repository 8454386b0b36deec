/- Plain words: the document's states (lists of rules) beside the code's (bits). -/
import Derived.Test.YtgcmedkaadagmaaDoorAU5
namespace Go.Proofs.YtgcmedkaadagmaaDoor

theorem bitsOf_step (p : Nat → Bool) (n : Nat) : bitsOf p (n + 1) = if p n then bitsOf p n + 2 ^ n else bitsOf p n := by
  rw [bitsOf]
  split
  · rw [Nat.add_comm, ← Nat.mul_one (2 ^ n), Nat.two_pow_add_eq_or_of_lt (bitsOf_lt p n), Nat.or_comm]
  · rfl
theorem bitsOf_ext {a : Nat} {p : Nat → Bool} {n : Nat} (h : ∀ i, a.testBit i = (decide (i < n) && p i)) : a = bitsOf p n := by
  apply Nat.eq_of_testBit_eq
  intro i
  rw [h, bitsOf_bit]
/-- The document's bits of rules of which all sets were met. -/
def endsDL (rows : List (List (List Int))) (m : Nat) (l : List Nat) (acc : Nat) : Nat := l.foldl (fun a i => if (rows.getD i []).length = m then a + 2 ^ i else a) acc
def endsD (rows : List (List (List Int))) (s : Nat × List Nat) : Nat := endsDL rows s.1 s.2 0
theorem listOf_succ (m k : Nat) : listOf m (k + 1) = listOf m k ++ if m.testBit k then [k] else [] := by
  unfold listOf
  rw [List.range_succ, List.filter_append]
  congr 1
  by_cases h : m.testBit k = true
  · simp [h]
  · simp [h]
theorem endsDL_bits (rows : List (List (List Int))) (m x : Nat) : ∀ k, endsDL rows m (listOf x k) 0 = bitsOf (fun i => x.testBit i && ((rows.getD i []).length == m)) k
  | 0 => rfl
  | k + 1 => by
    rw [listOf_succ, bitsOf_step, ← endsDL_bits rows m x k]
    unfold endsDL
    rw [List.foldl_append]
    by_cases h : x.testBit k = true
    · rw [if_pos h, h, Bool.true_and, List.foldl_cons, List.foldl_nil]
      by_cases e : (rows.getD k []).length = m
      · rw [if_pos e, if_pos (by simpa using e)]
      · rw [if_neg e, if_neg (by simpa using e)]
    · have h' : x.testBit k = false := by simpa using h
      rw [h', if_neg (by simp), if_neg (by simp)]; rfl
theorem endsD_eq (rows : List (List (List Int))) (p : Nat × Nat) : endsD rows (p.1, listOf p.2 rows.length) = endsP rows p := by
  unfold endsD
  rw [endsDL_bits]
  symm
  apply bitsOf_ext
  intro i
  unfold endsP
  rw [Nat.testBit_and, endsM_bit]
  cases decide (i < rows.length) <;> cases p.2.testBit i <;> rfl
theorem listOf_mem {m k i : Nat} : i ∈ listOf m k ↔ i < k ∧ m.testBit i = true := by
  unfold listOf; rw [List.mem_filter, List.mem_range]
theorem listOf_inj {a b n : Nat} (ha : a < 2 ^ n) (hb : b < 2 ^ n) (h : listOf a n = listOf b n) : a = b := by
  apply Nat.eq_of_testBit_eq
  intro i
  by_cases hi : i < n
  · have := congrArg (fun l => decide (i ∈ l)) h
    simp only [listOf_mem, hi, true_and] at this
    simpa using this
  · rw [Nat.testBit_lt_two_pow (Nat.lt_of_lt_of_le ha (Nat.pow_le_pow_right (by omega) (by omega))), Nat.testBit_lt_two_pow (Nat.lt_of_lt_of_le hb (Nat.pow_le_pow_right (by omega) (by omega)))]
theorem listOf_zero (n : Nat) : listOf 0 n = [] := by
  unfold listOf; simp
theorem listOf_nil {a n : Nat} (ha : a < 2 ^ n) : listOf a n = [] ↔ a = 0 := by
  constructor
  · intro h
    exact listOf_inj ha (Nat.two_pow_pos n) (h.trans (listOf_zero n).symm)
  · rintro rfl; exact listOf_zero n
theorem listOf_len (a n : Nat) : (listOf a n).length ≤ n := by
  have := List.length_filter_le (fun i => a.testBit i) (List.range n)
  unfold listOf; simpa using this
def phi (n : Nat) (p : Nat × Nat) : Nat × List Nat := (p.1, listOf p.2 n)
theorem phi_inj {n : Nat} (a b : Nat × Nat) (ha : a.2 < 2 ^ n) (hb : b.2 < 2 ^ n) (h : phi n a = phi n b) : a = b := by
  unfold phi at h
  injection h with h1 h2
  exact Prod.ext h1 (listOf_inj ha hb h2)
/-- The document's next state, by a class's glyph. -/
def nxD (rows : List (List (List Int))) (gl : List Int) (s : Nat × List Nat) (c : Nat) : Option (Nat × List Nat) :=
  if (behindD rows s (gl.getD c 0)).2 = [] then none else some (behindD rows s (gl.getD c 0))
section
variable {rows : List (List (List Int))} {cls gl : List Int} {K : Nat}
theorem behindD_phi (hC : ClsOK rows cls) {g c : Int} (hg : isCls cls g c = true) (p : Nat × Nat) : behindD rows (phi rows.length p) g = phi rows.length (p.1 + 1, p.2 &&& nextM rows cls p.1 c) := by
  have h := behind_same hC hg p
  unfold phi
  exact Prod.ext rfl h
/-- The glyphs stand for the classes. -/
def RepOK (cls gl : List Int) (K : Nat) : Prop := gl.length = K ∧ ∀ c, c < K → isCls cls (gl.getD c 0) (c : Int) = true
theorem nxD_phi (hC : ClsOK rows cls) (hR : RepOK cls gl K) {p : Nat × Nat} {c : Nat} (hc : c < K) (hp : p.2 < 2 ^ rows.length) : nxD rows gl (phi rows.length p) c = (nxP rows cls p c).map (phi rows.length) := by
  unfold nxD
  rw [behindD_phi hC (hR.2 c hc)]
  unfold nxP
  have hlt : p.2 &&& nextM rows cls p.1 (c : Int) < 2 ^ rows.length := and_lt_left _ hp
  by_cases h : p.2 &&& nextM rows cls p.1 (c : Int) = 0
  · rw [if_pos h, if_pos (show (phi rows.length (p.1 + 1, p.2 &&& nextM rows cls p.1 (c : Int))).2 = [] from (listOf_nil hlt).2 h)]; rfl
  · rw [if_neg h, if_neg (show ¬ (phi rows.length (p.1 + 1, p.2 &&& nextM rows cls p.1 (c : Int))).2 = [] from fun e => h ((listOf_nil hlt).1 e))]; rfl
/-- The document's states, and the code's. -/
theorem allD_eq (hC : ClsOK rows cls) (hR : RepOK cls gl K) {p0 : Nat × Nat} (hp : p0.2 < 2 ^ rows.length) : allL (nxD rows gl) K (phi rows.length p0) = (allL (nxP rows cls) K p0).map fun r => (r.1, r.2.map (phi rows.length)) := by
  unfold allL
  refine statesL_map (φ := phi rows.length) (I := fun p => p.2 < 2 ^ rows.length) (fun a b ha hb h => phi_inj a b ha hb h) (fun a c q _ ha h => ?_) (fun a c hc ha => nxD_phi hC hR hc ha) _ 0 [p0] [] (fun q hq => ?_)
  · rw [(nxP_some h).2.2.1]; exact and_lt_left _ ha
  · rw [List.mem_singleton] at hq; rw [hq]; exact hp
end
theorem map_endsD (rows : List (List (List Int))) (met : List (Nat × Nat)) : (met.map (phi rows.length)).map (endsD rows) = met.map (endsP rows) := by
  rw [List.map_map]
  exact List.map_congr_left fun p _ => endsD_eq rows p
/-- What the document's step leaves: without rules it is the empty state. -/
def normD (s : Nat × List Nat) : Nat × List Nat := if s.2 = [] then (0, []) else s
theorem normD_phi {rows : List (List (List Int))} {cls : List Int} {K : Nat} (hC : ClsOK rows cls) (hG : GlyOK cls K) {p : Nat × Nat} (hp : p.2 < 2 ^ rows.length) {g : Int} (h0 : 0 ≤ g) (h1 : g < (cls.length : Int)) : normD (behindD rows (phi rows.length p) g) = phi rows.length (stepP rows cls p g) := by
  obtain ⟨c, hc, hck, hcc⟩ := cls_at hG h0 h1
  rw [behindD_phi hC hcc]
  unfold normD stepP behindP
  rw [hc]
  have hlt : p.2 &&& nextM rows cls p.1 (c : Int) < 2 ^ rows.length := and_lt_left _ hp
  by_cases h : p.2 &&& nextM rows cls p.1 (c : Int) = 0
  · rw [if_pos h, if_pos (show (phi rows.length (p.1 + 1, p.2 &&& nextM rows cls p.1 (c : Int))).2 = [] from (listOf_nil hlt).2 h)]; unfold phi; rw [listOf_zero]
  · rw [if_neg h, if_neg (show ¬ (phi rows.length (p.1 + 1, p.2 &&& nextM rows cls p.1 (c : Int))).2 = [] from fun e => h ((listOf_nil hlt).1 e))]
theorem endsD_norm {rows : List (List (List Int))} (s : Nat × List Nat) : endsD rows (normD s) = endsD rows s := by
  unfold normD
  split
  · rename_i h
    unfold endsD; rw [h]; rfl
  · rfl

end Go.Proofs.YtgcmedkaadagmaaDoor
