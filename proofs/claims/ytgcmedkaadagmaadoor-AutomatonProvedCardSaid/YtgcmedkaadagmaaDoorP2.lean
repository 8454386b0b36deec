/- Plain words: the laws' own rules; two glyphs that no set tells apart; what a row tells with more glyphs. -/
import Derived.Test.YtgcmedkaadagmaaDoorP1
namespace Go.Proofs.YtgcmedkaadagmaaDoor

def cut4 (xs : List (List Int)) : List (List Int) := (xs.take 3).map (·.take 4)
def cutR (r : Rul) : Rul := ⟨cut4 r.back, cut4 r.inn, cut4 r.ahead, [], [], 0⟩
def madeR (rs : List Rul) : List Rul := (rs.take 6).map cutR
theorem cut4_len (xs : List (List Int)) : (cut4 xs).length ≤ 3 := by unfold cut4; rw [List.length_map, List.length_take]; omega
theorem cut4_mem {xs : List (List Int)} {s : List Int} (h : s ∈ cut4 xs) : s.length ≤ 4 := by
 obtain ⟨x, _, rfl⟩ := List.mem_map.1 h
 rw [List.length_take]; omega
theorem made_len (rs : List Rul) : (madeR rs).length ≤ 6 := by unfold madeR; rw [List.length_map, List.length_take]; omega
theorem made_mem {rs : List Rul} {r : Rul} (h : r ∈ madeR rs) : ∃ r0, r = cutR r0 := by
 obtain ⟨x, _, rfl⟩ := List.mem_map.1 h
 exact ⟨x, rfl⟩
theorem flat_made : ∀ (l : List Rul), (∀ r ∈ l, ∃ r0, r = cutR r0) → (setsL l).length ≤ l.length * 9
 | [], _ => by simp [setsL]
 | r :: l, h => by
  have h1 := flat_made l (fun x hx => h x (List.mem_cons_of_mem _ hx))
  obtain ⟨r0, rfl⟩ := h r (List.mem_cons_self ..)
  unfold setsL at h1 ⊢
  rw [List.flatMap_cons, List.length_append, List.length_append, List.length_append, List.length_cons]
  have h2 := cut4_len r0.back
  have h3 := cut4_len r0.inn
  have h4 := cut4_len r0.ahead
  unfold cutR
  dsimp only
  omega
theorem made_sets {rs : List Rul} {s : List Int} (h : s ∈ setsL (madeR rs)) : s.length ≤ 4 := by
 unfold setsL at h
 obtain ⟨r, hr, hs⟩ := List.mem_flatMap.1 h
 obtain ⟨r0, rfl⟩ := made_mem hr
 rcases List.mem_append.1 hs with hs | hs
 ·exact cut4_mem hs
 ·rcases List.mem_append.1 hs with hs | hs
  ·exact cut4_mem hs
  ·exact cut4_mem hs
theorem made_sm (rs : List Rul) : SmB (madeR rs) := by
 have h1 := made_len rs
 have h2 := flat_made (madeR rs) (fun _ h => made_mem h)
 exact ⟨by omega, by omega, fun s hs => by have := made_sets hs; omega⟩
theorem made_row (back : Bool) {rs : List Rul} : ∀ row ∈ rowsF (kindF back) (madeR rs), row.length ≤ 6 := fun row hr => by
 obtain ⟨r, hq, rfl⟩ := List.mem_map.1 hr
 obtain ⟨r0, rfl⟩ := made_mem hq
 have h2 := cut4_len r0.back
 have h3 := cut4_len r0.inn
 have h4 := cut4_len r0.ahead
 cases back
 ·show (foreR (cutR r0)).1.length ≤ 6
  unfold foreR cutR
  split
  ·simp
  ·simp; omega
 ·show (cutR r0).back.length ≤ 6
  unfold cutR
  dsimp only
  omega
theorem made_half (back : Bool) (rs : List Rul) (n : Nat) : ∃ x, halfL (kindF back) (madeR rs) n = some x := by
 have h1 := hv_lt back (madeR rs)
 rw [rowsF_len] at h1
 have h2 : 2 ^ (madeR rs).length ≤ 2 ^ 6 := Nat.pow_le_pow_right (by omega) (made_len rs)
 exact allP_some (clsL (madeR rs) n) (KL (madeR rs) n) (k := 6) (m := 6) (made_row back) (by decide) (by omega)
theorem made_auto (rs : List Rul) (n : Nat) : ∃ a, autoL (madeR rs) n = some a := by
 obtain ⟨x, hx⟩ := made_half false rs n
 obtain ⟨y, hy⟩ := made_half true rs n
 refine ⟨⟨clsL (madeR rs) n, x.1, y.1, x.2.map (endsP (rowsF (kindF false) (madeR rs))), y.2.map (endsP (rowsF (kindF true) (madeR rs)))⟩, ?_⟩
 unfold autoL
 rw [show halfL foreR (madeR rs) n = some x from hx, show halfL backR (madeR rs) n = some y from hy]
 rfl
theorem made_build (rs : List Rul) {n : Nat} (h0 : 0 < n) (hn : n ≤ 8) : ∃ a, autoL (madeR rs) n = some a ∧ buildL ⟨List.replicate n ⟨false, []⟩, [⟨4, false, madeR rs⟩]⟩ 0 = (some a, 0) := by
 obtain ⟨a, ha⟩ := made_auto rs n
 refine ⟨a, ha, ?_⟩
 have h1 := made_len rs
 unfold buildL
 rw [show lkAt ⟨List.replicate n ⟨false, []⟩, [⟨4, false, madeR rs⟩]⟩ 0 = some ⟨4, false, madeR rs⟩ from rfl]
 dsimp only
 rw [List.length_replicate, if_neg (by omega), if_neg (by omega), ha]
theorem auto_cls {rs : List Rul} {n : Nat} {a : Au} (h : autoL rs n = some a) : a.cls = clsL rs n := by
 obtain ⟨x, y, _, _, rfl⟩ := autoL_some h
 rfl
/-- Two glyphs are of one class just if no set tells them apart. -/
theorem cls_same (rs : List Rul) {n i j : Nat} (hi : i < n) (hj : j < n) : (clsL rs n)[i]? = (clsL rs n)[j]? ↔ ∀ s ∈ setsL rs, s.contains (i : Int) = s.contains (j : Int) := by
 rw [clsL_at rs hi, clsL_at rs hj]
 have h1 := S6.class_eq (S6.sig (setsL rs)) i j
 rw [S6.sig_eq] at h1
 constructor
 ·intro h s hs
  injection h with h
  have := h1.1 (by omega) s hs
  rw [Bool.eq_iff_iff]; simpa using this
 ·intro h
  rw [h1.2 fun s hs => ?_]
  have := h s hs
  rw [Bool.eq_iff_iff] at this; simpa using this
theorem begins_map {f : Int → Int} : ∀ (row : List (List Int)) (w : List Int), (∀ s ∈ row, ∀ g, s.contains (f g) = s.contains g) → beginsB row (w.map f) = beginsB row w
 | [], _, _ => by unfold beginsB; rfl
 | _ :: _, [], _ => by unfold beginsB; rfl
 | s :: row, g :: w, h => by
  rw [List.map_cons, beginsB, beginsB, begins_map row w (fun x hx => h x (List.mem_cons_of_mem _ hx)), h s (List.mem_cons_self ..)]
theorem says_map {f : Int → Int} (back : Bool) (rs : List Rul) (w : List Int) (h : ∀ s ∈ setsL rs, ∀ g, s.contains (f g) = s.contains g) : saysB back rs (w.map f) = saysB back rs w := by
 unfold saysB
 refine congrArg (fun f => bitsOf f rs.length) (funext fun i => ?_)
 cases hr : rs[i]? with
 | none => rfl
 | some r =>
  dsimp only
  have hm := List.mem_of_getElem? hr
  rw [begins_map (rowD back r) w fun s hs g => h s (List.mem_flatMap.2 ⟨r, hm, ?_⟩) g]
  unfold rowD at hs
  cases back
  ·exact List.mem_append_right _ hs
  ·exact List.mem_append_left _ hs
/-- One glyph stands for the other one. -/
def swapG (p q : Int) (g : Int) : Int := if g = p then q else g
theorem swap_ok {rs : List Rul} {p q : Int} (h : ∀ s ∈ setsL rs, s.contains p = s.contains q) : ∀ s ∈ setsL rs, ∀ g, s.contains (swapG p q g) = s.contains g := fun s hs g => by
 unfold swapG
 split
 ·rename_i e; subst e; exact (h s hs).symm
 ·rfl
theorem says_swap {rs : List Rul} {p q : Int} (h : ∀ s ∈ setsL rs, s.contains p = s.contains q) (back : Bool) (w : List Int) : saysB back rs (w.map (swapG p q)) = saysB back rs w := says_map back rs w (swap_ok h)

/-- What was told ahead of the glyph number i. -/
def preF (a : Au) (l : List Int) : Nat → Nat
 | 0 => 0
 | i + 1 => foreA a (l.take i)
def preB (a : Au) (l : List Int) : Nat → Nat
 | 0 => 0
 | i + 1 => backA a (l.take i)
theorem preF_and (a : Au) (l : List Int) : ∀ i, foreA a (l.take i) &&& preF a l i = preF a l i
 | 0 => by simp [preF]
 | i + 1 => by
  unfold preF foreA
  have h := read_more (cls := a.cls) (rows := a.fore) (ends := a.fe) (l.take i) ((l[i]?).toList) 0 (bitsA a.fe 0)
  rw [← List.take_add_one, Nat.and_comm] at h
  exact h
theorem preB_and (a : Au) (l : List Int) : ∀ i, backA a (l.take i) &&& preB a l i = preB a l i
 | 0 => by simp [preB]
 | i + 1 => by
  unfold preB backA
  have h := read_more (cls := a.cls) (rows := a.back) (ends := a.be) (l.take i) ((l[i]?).toList) 0 (bitsA a.be 0)
  rw [← List.take_add_one, Nat.and_comm] at h
  exact h
theorem firstZ_cases {x : Nat} (h : x < 18446744073709551616) : (firstZ x = -1 ∧ x = 0) ∨ ∃ k : Nat, k < 64 ∧ firstZ x = (k : Int) ∧ x / 2 ^ k % 2 = 1 := by
 unfold firstZ
 cases hl : leastA x with
 | none => exact .inl ⟨rfl, leastA_none hl h⟩
 | some k =>
  obtain ⟨h1, h2, _⟩ := leastA_some hl
  refine .inr ⟨k, h1, rfl, ?_⟩
  rw [Nat.testBit_eq_decide_div_mod_eq] at h2
  simpa using h2

end Go.Proofs.YtgcmedkaadagmaaDoor
