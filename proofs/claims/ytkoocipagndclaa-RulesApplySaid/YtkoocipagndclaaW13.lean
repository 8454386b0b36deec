/- Words on maps from ints to whatever values; walks: matcher. -/
import Derived.Test.YtkoocipagndclaaW12
namespace Go.Proofs.Ytkoocipagndclaa
open Go.RowKit Go.Shelf

def keyI : Value → Option Int
  | .int .i64 k => some k
  | _ => none
def mget (es : List MapEntry) (k : Int) : Option Value := (es.find? fun e => decide (keyI e.key = some k)).map (·.val)
/-- Block b is a map of ints that holds just what f says. -/
def MapV (w : World) (b : Nat) (f : Int → Option Value) : Prop := ∃ es clock, w.heap[b]? = some (.map es clock) ∧ (∀ e ∈ es.toList, ∃ k, e.key = .int .i64 k) ∧ ∀ k, f k = mget es.toList k
theorem MapV.lt {w : World} {b : Nat} {f : Int → Option Value} (h : MapV w b f) : b < w.heap.size := by obtain ⟨es, c, h, _⟩ := h; exact (Array.getElem?_eq_some_iff.1 h).1
theorem MapV.new (w : World) : MapV (w.alloc (.map #[] 0)) w.heap.size (fun _ => none) := ⟨#[], 0, heap_alloc_new w _, fun e he => by simp at he, fun k => rfl⟩
theorem MapV.keep {w w' : World} {b : Nat} {f : Int → Option Value} (h : MapV w b f) (hk : w'.heap[b]? = w.heap[b]?) : MapV w' b f := by
  obtain ⟨es, c, h1, h2⟩ := h
  exact ⟨es, c, hk.trans h1, h2⟩

theorem findNow_spec (es : List MapEntry) (k : Int) (hk : ∀ e ∈ es, ∃ j, e.key = .int .i64 j) (i : Nat) :
    (mget es k = none ∧ Instr.findNow (.int .i64) (.int .i64 k) es i = some none) ∨
    ∃ (j : Nat) (e : MapEntry), Instr.findNow (.int .i64) (.int .i64 k) es i = some (some (i + j, e.val)) ∧ es[j]? = some e ∧ e.key = .int .i64 k ∧ mget es k = some e.val ∧ ∀ (q : Nat) (x : MapEntry), q < j → es[q]? = some x → keyI x.key ≠ some k := by
  induction es generalizing i with
  | nil => left; exact ⟨rfl, rfl⟩
  | cons e t ih =>
    obtain ⟨j, hj⟩ := hk e (List.mem_cons_self ..)
    by_cases h : k = j
    · subst h
      right
      refine ⟨0, e, ?_, rfl, hj, ?_, fun q x hq => by omega⟩
      · unfold Instr.findNow; rw [hj]; simp [Instr.sameNow]
      · unfold mget; simp [hj, keyI]
    · have hs : Instr.sameNow (.int .i64) (.int .i64 k) e.key = some false := by rw [hj]; simp [Instr.sameNow, h]
      have hm : mget (e :: t) k = mget t k := by
        unfold mget
        rw [List.find?_cons_of_neg (by simp [hj, keyI]; omega)]
      rcases ih (fun x hx => hk x (List.mem_cons_of_mem _ hx)) (i + 1) with ⟨h1, h2⟩ | ⟨p, x, h1, h2, h3, h4, h5⟩
      · left
        refine ⟨by rw [hm]; exact h1, ?_⟩
        unfold Instr.findNow; rw [hs]; exact h2
      · right
        refine ⟨p + 1, x, ?_, by simpa using h2, h3, by rw [hm]; exact h4, fun q y hq hy => ?_⟩
        · unfold Instr.findNow; rw [hs]; dsimp only; rw [h1]; congr 3; omega
        · cases q with
          | zero => simp at hy; subst hy; rw [hj]; simp [keyI]; omega
          | succ q => exact h5 q y (by omega) (by simpa using hy)

theorem run_checkKey {P : Program} (w : World) (em : Bool) (n : Nat) (t : TypeId) (ht : P.underlying t = some (.int .i64)) (k : Int) : (Instr.checkKey em (n + 1) t (.int .i64 k)).run P w = .ok () w := by
  unfold Instr.checkKey; simp [run_underlying ht]
theorem run_lookV {P : Program} (w : World) (T K E : TypeId) (hT : P.underlying T = some (.map K E)) (hK : P.underlying K = some (.int .i64)) (z : Value) (hz : ∀ w, (zeroValue E).run P w = .ok z w) (b : Nat) (f : Int → Option Value) (k : Int) (h : MapV w b f) :
    (Instr.lookup T (.map (some b)) (.int .i64 k) true).run P w = .ok (.tuple #[(f k).getD z, .bool (f k).isSome]) w := by
  obtain ⟨es, c, h1, h2, h3⟩ := h
  rw [h3 k]
  unfold Instr.lookup Instr.findKey
  have hg := MapKept.run_getObj_map (P := P) h1
  rcases findNow_spec es.toList k h2 0 with ⟨e1, e2⟩ | ⟨j, e, e1, _, _, e4, _⟩
  · simp [run_underlying hT, run_underlying hK, hg, run_checkKey w _ 9999 K hK, e2, hz, e1]
  · simp [run_underlying hT, run_underlying hK, hg, run_checkKey w _ 9999 K hK, e1, e4]

theorem run_stays {P : Program} (w : World) (k : Int) : (Instr.keyThatStays (.int .i64 k) (.int .i64 k)).run P w = .ok (.int .i64 k) w := by
  unfold Instr.keyThatStays; simp [Instr.sameBits]
theorem mget_push (es : List MapEntry) (e : MapEntry) (k : Int) : mget (es ++ [e]) k = match mget es k with | some v => some v | none => if keyI e.key = some k then some e.val else none := by
  unfold mget
  rw [List.find?_append]
  cases h : es.find? (fun e => decide (keyI e.key = some k)) with
  | some x => simp
  | none =>
    simp only [Option.none_or, Option.map_none, List.find?_cons, List.find?_nil]
    by_cases hk : keyI e.key = some k <;> simp [hk]
theorem mget_modify {es : List MapEntry} {j : Nat} {e : MapEntry} {k : Int} {v : Value} (h1 : es[j]? = some e) (h2 : e.key = .int .i64 k) (h3 : ∀ (q : Nat) (x : MapEntry), q < j → es[q]? = some x → keyI x.key ≠ some k) (q : Int) :
    mget (es.modify j fun e => { e with key := .int .i64 k, val := v }) q = if q = k then some v else mget es q := by
  induction es generalizing j with
  | nil => simp at h1
  | cons x t ih =>
    cases j with
    | zero =>
      simp at h1; subst h1
      rw [List.modify_zero_cons]
      unfold mget
      by_cases hq : q = k
      · subst hq
        rw [List.find?_cons_of_pos (by simp [keyI])]; simp
      · rw [List.find?_cons_of_neg (by simp [keyI]; omega), List.find?_cons_of_neg (by simp [h2, keyI]; omega), if_neg hq]
    | succ j =>
      rw [List.modify_succ_cons]
      have hx := h3 0 x (by omega) rfl
      have hrec := ih (j := j) (by simpa using h1) (fun p y hp hy => h3 (p + 1) y (by omega) (by simpa using hy))
      unfold mget at hrec ⊢
      by_cases hxq : keyI x.key = some q
      · rw [List.find?_cons_of_pos (by simp [hxq]), List.find?_cons_of_pos (by simp [hxq])]
        have : q ≠ k := fun e => by subst e; exact hx hxq
        rw [if_neg this]
      · rw [List.find?_cons_of_neg (by simp [hxq]), List.find?_cons_of_neg (by simp [hxq])]
        exact hrec
theorem run_putV {P : Program} (w : World) (T K E : TypeId) (hT : P.underlying T = some (.map K E)) (hK : P.underlying K = some (.int .i64)) (b : Nat) (f : Int → Option Value) (k : Int) (v : Value) (h : MapV w b f) :
    ∃ w', (Instr.mapUpdate T (.map (some b)) (.int .i64 k) v).run P w = .ok () w' ∧ MapV w' b (fun j => if j = k then some v else f j) ∧ w.grownBy w' (some b) := by
  obtain ⟨es, c, h1, h2, h3⟩ := h
  have hg := MapKept.run_getObj_map (P := P) h1
  have hlt : b < w.heap.size := (Array.getElem?_eq_some_iff.1 h1).1
  have hnew : ∀ (es' : Array MapEntry) (c' : Nat), (w.putObj b (.map es' c')).heap[b]? = some (.map es' c') := fun es' c' => by simp [World.putObj, hlt]
  rcases findNow_spec es.toList k h2 0 with ⟨e1, e2⟩ | ⟨j, e, e1, e2, e3, e4, e5⟩
  · refine ⟨w.putObj b (.map (es.push { key := .int .i64 k, val := v, born := c }) (c + 1)), ?_, ⟨_, _, hnew _ _, ?_, fun q => ?_⟩, grownBy_putObj' w b _⟩
    · unfold Instr.mapUpdate Instr.findKey
      simp [run_underlying hT, run_underlying hK, hg, run_checkKey w _ 9999 K hK, e2, MapKept.run_setObj_map _ h1, World.putObj]
    · intro x hx
      rw [Array.toList_push] at hx
      rcases List.mem_append.1 hx with hx | hx
      · exact h2 x hx
      · simp at hx; subst hx; exact ⟨k, rfl⟩
    · rw [Array.toList_push, mget_push]
      show (if q = k then some v else f q) = _
      by_cases hq : q = k
      · subst hq; rw [e1]; simp [keyI]
      · rw [if_neg hq, h3 q]
        cases hm : mget es.toList q with
        | some u => rfl
        | none => simp [keyI]; omega
  · refine ⟨w.putObj b (.map (es.modify j fun e => { e with key := .int .i64 k, val := v }) c), ?_, ⟨_, _, hnew _ _, ?_, fun q => ?_⟩, grownBy_putObj' w b _⟩
    · unfold Instr.mapUpdate Instr.findKey
      have hj : es[j]? = some e := by simpa using e2
      rw [Nat.zero_add] at e1
      simp [run_underlying hT, run_underlying hK, hg, run_checkKey w _ 9999 K hK, e1, hj, e3, run_stays, MapKept.run_setObj_map _ h1, World.putObj]
    · intro x hx
      rw [Array.toList_modify] at hx
      obtain ⟨q, hq⟩ := List.mem_iff_getElem?.1 hx
      rw [List.getElem?_modify] at hq
      obtain ⟨y, hy, rfl⟩ := Option.map_eq_some_iff.1 hq
      split
      · exact ⟨k, rfl⟩
      · exact h2 y (List.mem_of_getElem? hy)
    · show (if q = k then some v else f q) = _
      rw [Array.toList_modify, mget_modify e2 e3 e5, h3 q]

end Go.Proofs.Ytkoocipagndclaa
