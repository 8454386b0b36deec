/- Words on maps of the call's own, whatever keys and values: what a map holds, as a list of entries in the order in which they came. -/
import Derived.Test.YtgcmedkaadagmaaDoorV4
import Derived.Maps.Own
import Derived.Maps.OwnOps
import Derived.Maps.OwnSet
namespace Go.Proofs.YtgcmedkaadagmaaDoor
open Go.RowKit Go.Shelf Go.Maps

section
variable {κ : Type}
/-- The place of a key in a list. -/
def posK [DecidableEq κ] (es : List κ) (k : κ) : Option Nat := es.idxOf? k
theorem posK_some [DecidableEq κ] {es : List κ} {k : κ} {i : Nat} (h : posK es k = some i) : es[i]? = some k := by
  unfold posK at h
  rw [List.idxOf?, List.findIdx?_eq_some_iff_getElem] at h
  obtain ⟨h1, h2, _⟩ := h
  rw [List.getElem?_eq_getElem h1]; simpa using h2
theorem posK_none [DecidableEq κ] {es : List κ} {k : κ} (h : posK es k = none) : k ∉ es := by
  unfold posK at h; rwa [List.idxOf?_eq_none_iff] at h
theorem posK_of [DecidableEq κ] {es : List κ} {k : κ} {i : Nat} (hn : es.Nodup) (h : es[i]? = some k) : posK es k = some i := by
  cases hp : posK es k with
  | none => exact absurd (List.mem_of_getElem? h) (posK_none hp)
  | some j =>
    have hj := posK_some hp
    have := (List.getElem?_inj (List.getElem?_eq_some_iff.1 hj).1 hn).1 (hj.trans h.symm)
    rw [this]
/-- What the model asks of keys of a kind. -/
structure KeyOK [DecidableEq κ] (keyT : TypeId) (kv : κ → Value) : Prop where
  check : ∀ (em : Bool) (k : κ) (w : World), (Instr.checkKey em 10000 keyT (kv k)).run Tryd.prog w = .ok () w
  find : ∀ (es : List MapEntry) (ks : List κ) (k : κ) (w : World), es.map (·.key) = ks.map kv → (Instr.findKey keyT (kv k) es).run Tryd.prog w = .ok (match posK ks k with | some i => (es[i]?).map (fun e => (i, e.val)) | none => none) w
  stays : ∀ k : κ, Instr.sameBits 10000 (kv k) (kv k) = true
theorem posK_cons [DecidableEq κ] (a : κ) (es : List κ) (k : κ) : posK (a :: es) k = if a = k then some 0 else (posK es k).map (· + 1) := by
  unfold posK
  rw [List.idxOf?_cons]
  by_cases h : a = k <;> simp [h]
theorem findNow_pos [DecidableEq κ] {kind : TypeDesc} {kv : κ → Value} (h : ∀ a b : κ, Instr.sameNow kind (kv a) (kv b) = some (decide (a = b))) (k : κ) : ∀ (es : List MapEntry) (ks : List κ) (i : Nat), es.map (·.key) = ks.map kv →
    Instr.findNow kind (kv k) es i = some (match posK ks k with | some j => (es[j]?).map (fun e => (i + j, e.val)) | none => none)
  | [], [], i, _ => rfl
  | [], _ :: _, i, e => by simp at e
  | _ :: _, [], i, e => by simp at e
  | e :: es, a :: ks, i, he => by
    simp only [List.map_cons, List.cons.injEq] at he
    obtain ⟨h1, h2⟩ := he
    unfold Instr.findNow
    rw [h1, h k a, posK_cons]
    by_cases hk : k = a
    · subst hk; simp
    · have hk' : ¬ a = k := fun e => hk e.symm
      simp only [hk, decide_false, if_neg hk']
      rw [findNow_pos h k es ks (i + 1) h2]
      cases posK ks k with
      | none => rfl
      | some j => simp [Nat.add_assoc, Nat.add_comm 1 j]
theorem findAsk_pos [DecidableEq κ] {keyT : TypeId} {kv : κ → Value} (h : ∀ (a b : κ) (w : World), (Op.equal keyT (kv a) (kv b)).run Tryd.prog w = .ok (decide (a = b)) w) (k : κ) (w : World) : ∀ (es : List MapEntry) (ks : List κ) (i : Nat), es.map (·.key) = ks.map kv →
    (Instr.findAsking keyT (kv k) es i).run Tryd.prog w = .ok (match posK ks k with | some j => (es[j]?).map (fun e => (i + j, e.val)) | none => none) w
  | [], [], i, _ => by unfold Instr.findAsking; simp [posK, Sem.run_pure]
  | [], _ :: _, i, e => by simp at e
  | _ :: _, [], i, e => by simp at e
  | e :: es, a :: ks, i, he => by
    simp only [List.map_cons, List.cons.injEq] at he
    obtain ⟨h1, h2⟩ := he
    unfold Instr.findAsking
    rw [Sem.run_bind, h1, h k a, posK_cons]
    by_cases hk : k = a
    · subst hk; simp [Sem.run_pure]
    · have hk' : ¬ a = k := fun e => hk e.symm
      simp only [hk, decide_false, if_neg hk', Result.andThen_ok, Bool.false_eq_true, if_false]
      rw [findAsk_pos h k w es ks (i + 1) h2]
      cases posK ks k with
      | none => rfl
      | some j => simp [Nat.add_assoc, Nat.add_comm 1 j]
theorem KeyOK.ofNow [DecidableEq κ] {keyT : TypeId} {kind : TypeDesc} {kv : κ → Value} (ht : Tryd.prog.underlying keyT = some kind) (h : ∀ a b : κ, Instr.sameNow kind (kv a) (kv b) = some (decide (a = b)))
    (hc : ∀ (em : Bool) (k : κ) (w : World), (Instr.checkKey em 10000 keyT (kv k)).run Tryd.prog w = .ok () w) (hs : ∀ k : κ, Instr.sameBits 10000 (kv k) (kv k) = true) : KeyOK keyT kv :=
  ⟨hc, fun es ks k w e => by
    unfold Instr.findKey
    rw [Sem.run_bind, run_underlying ht, Result.andThen_ok, findNow_pos h k es ks 0 e]
    simp [Sem.run_pure], hs⟩
theorem KeyOK.ofAsk [DecidableEq κ] {keyT : TypeId} {kind : TypeDesc} {kv : κ → Value} (ht : Tryd.prog.underlying keyT = some kind) (h0 : ∀ a b : κ, Instr.sameNow kind (kv a) (kv b) = none) (h : ∀ (a b : κ) (w : World), (Op.equal keyT (kv a) (kv b)).run Tryd.prog w = .ok (decide (a = b)) w)
    (hc : ∀ (em : Bool) (k : κ) (w : World), (Instr.checkKey em 10000 keyT (kv k)).run Tryd.prog w = .ok () w) (hs : ∀ k : κ, Instr.sameBits 10000 (kv k) (kv k) = true) : KeyOK keyT kv :=
  ⟨hc, fun es ks k w e => by
    unfold Instr.findKey
    rw [Sem.run_bind, run_underlying ht, Result.andThen_ok]
    have hf := findAsk_pos h k w es ks 0 e
    cases es with
    | nil =>
      cases ks with
      | nil => simp [Instr.findNow, Sem.run_pure, posK]
      | cons a ks => simp at e
    | cons x es =>
      cases ks with
      | nil => simp at e
      | cons a ks =>
        have hx : x.key = kv a := by simp at e; exact e.1
        have hn : Instr.findNow kind (kv k) (x :: es) 0 = none := by unfold Instr.findNow; rw [hx, h0]
        rw [hn]
        dsimp only
        rw [hf]
        simp, hs⟩

/-- Block b is a map; its entries as they came. -/
def MapK (kv : κ → Value) (w : World) (b : Nat) (l : List (κ × Value)) : Prop :=
  ∃ es : Array MapEntry, w.heap[b]? = some (.map es es.size) ∧ es.toList.map (fun e => (e.key, e.val)) = l.map (fun p => (kv p.1, p.2)) ∧ (∀ (i : Nat) (e : MapEntry), es.toList[i]? = some e → e.born = i) ∧ (l.map (·.1)).Nodup
def lkK [DecidableEq κ] (l : List (κ × Value)) (k : κ) : Option Value := (posK (l.map (·.1)) k).bind fun i => (l[i]?).map (·.2)
variable {kv : κ → Value} {w w' : World} {b : Nat} {l : List (κ × Value)}
theorem MapK.lt (h : MapK kv w b l) : b < w.heap.size := by obtain ⟨es, h, _⟩ := h; exact (Array.getElem?_eq_some_iff.1 h).1
theorem MapK.new (kv : κ → Value) (w : World) : MapK kv (w.alloc (.map #[] 0)) w.heap.size ([] : List (κ × Value)) := ⟨#[], heap_alloc_new w _, rfl, (fun i e h => by simp at h), by simp⟩
theorem MapK.keep (h : MapK kv w b l) (hk : w'.heap[b]? = w.heap[b]?) : MapK kv w' b l := by
  obtain ⟨es, h1, h2⟩ := h
  exact ⟨es, hk.trans h1, h2⟩
theorem MapK.notCells (h : MapK kv w b l) {cs : Array Value} {t : TypeId} {fr : Nat × Nat} (hc : w.heap[b]? = some (.cells cs t fr)) : False := by
  obtain ⟨es, h1, _⟩ := h
  rw [hc] at h1; injection h1 with h1; cases h1
theorem entries_at {es : List MapEntry} (h : es.map (fun e => (e.key, e.val)) = l.map (fun p => (kv p.1, p.2))) {i : Nat} {p : κ × Value} (hp : l[i]? = some p) : ∃ e, es[i]? = some e ∧ e.key = kv p.1 ∧ e.val = p.2 := by
  have := congrArg (fun x => x[i]?) h
  simp only [List.getElem?_map, hp, Option.map_some] at this
  cases he : es[i]? with
  | none => rw [he] at this; simp at this
  | some e => rw [he] at this; simp at this; exact ⟨e, rfl, this⟩
theorem entries_keys {es : List MapEntry} (h : es.map (fun e => (e.key, e.val)) = l.map (fun p => (kv p.1, p.2))) : es.map (·.key) = (l.map (·.1)).map kv := by
  have := congrArg (List.map Prod.fst) h
  rw [List.map_map, List.map_map] at this
  rw [List.map_map]
  exact this
theorem run_findL [DecidableEq κ] {keyT : TypeId} (hK : KeyOK keyT kv) {es : List MapEntry} (h : es.map (fun e => (e.key, e.val)) = l.map (fun p => (kv p.1, p.2))) (k : κ) (w : World) :
    (Instr.findKey keyT (kv k) es).run Tryd.prog w = .ok (match posK (l.map (·.1)) k with | some i => (l[i]?).map (fun p => (i, p.2)) | none => none) w := by
  rw [hK.find es (l.map (·.1)) k w (entries_keys h)]
  congr 1
  cases hp : posK (l.map (·.1)) k with
  | none => rfl
  | some i =>
    have h1 := posK_some hp
    rw [List.getElem?_map] at h1
    obtain ⟨p, hp1, _⟩ := Option.map_eq_some_iff.1 h1
    obtain ⟨e, he, _, hv⟩ := entries_at h hp1
    dsimp only
    rw [he, hp1]
    simp [hv]
theorem run_lookK [DecidableEq κ] {T K E : TypeId} (hT : Tryd.prog.underlying T = some (.map K E)) (hK : KeyOK K kv) (z : Value) (hz : ∀ w, (zeroValue E).run Tryd.prog w = .ok z w) (h : MapK kv w b l) (k : κ) (ok : Bool) :
    (Instr.lookup T (.map (some b)) (kv k) ok).run Tryd.prog w = .ok (if ok then .tuple #[(lkK l k).getD z, .bool (lkK l k).isSome] else (lkK l k).getD z) w := by
  obtain ⟨es, h1, h2, _⟩ := h
  have hg := MapKept.run_getObj_map (P := Tryd.prog) h1
  have hf := run_findL hK h2 k w
  unfold Instr.lookup
  unfold lkK
  cases hp : posK (l.map (·.1)) k with
  | none =>
    rw [hp] at hf
    simp [run_underlying hT, hg, hK.check, hf, hz]
  | some i =>
    rw [hp] at hf
    have h3 := posK_some hp
    rw [List.getElem?_map] at h3
    obtain ⟨p, hp1, _⟩ := Option.map_eq_some_iff.1 h3
    simp [run_underlying hT, hg, hK.check, hf, hp1]
theorem run_staysK [DecidableEq κ] {keyT : TypeId} (hK : KeyOK keyT kv) (k : κ) (w : World) : (Instr.keyThatStays (kv k) (kv k)).run Tryd.prog w = .ok (kv k) w := by
  unfold Instr.keyThatStays; simp [hK.stays]
/-- An entry set anew. -/
def putK [DecidableEq κ] (l : List (κ × Value)) (k : κ) (v : Value) : List (κ × Value) :=
  match posK (l.map (·.1)) k with
  | some i => l.set i (k, v)
  | none => l ++ [(k, v)]
theorem lkK_put [DecidableEq κ] (hn : (l.map (·.1)).Nodup) (k : κ) (v : Value) (j : κ) : lkK (putK l k v) j = if j = k then some v else lkK l j := by
  unfold putK
  cases hp : posK (l.map (·.1)) k with
  | none =>
    dsimp only
    have hk := posK_none hp
    unfold lkK
    rw [List.map_append]
    by_cases hj : j = k
    · subst hj
      have : posK (l.map (·.1) ++ [j]) j = some l.length := posK_of (by rw [List.nodup_append]; exact ⟨hn, by simp, fun a ha b hb e => hk (by simp at hb; subst hb; subst e; exact ha)⟩) (by rw [List.getElem?_append_right (by simp)]; simp)
      simp only [List.map_cons, List.map_nil, this, if_true]; simp
    · rw [if_neg hj]
      cases hq : posK (l.map (·.1)) j with
      | none =>
        have : posK (l.map (·.1) ++ [k]) j = none := by
          unfold posK; rw [List.idxOf?_eq_none_iff]
          intro hm
          rcases List.mem_append.1 hm with hm | hm
          · exact posK_none hq hm
          · simp at hm; exact hj hm
        simp only [List.map_cons, List.map_nil, this]; rfl
      | some i =>
        have h1 := posK_some hq
        have hi : i < l.length := by have := (List.getElem?_eq_some_iff.1 h1).1; simpa using this
        have : posK (l.map (·.1) ++ [k]) j = some i := posK_of (by rw [List.nodup_append]; exact ⟨hn, by simp, fun a ha b hb e => hk (by simp at hb; subst hb; subst e; exact ha)⟩) (by rw [List.getElem?_append_left (by simpa using hi)]; exact h1)
        simp only [List.map_cons, List.map_nil, this, Option.bind_some]
        rw [List.getElem?_append_left hi]
  | some i =>
    dsimp only
    have h1 := posK_some hp
    have hi : i < l.length := by have := (List.getElem?_eq_some_iff.1 h1).1; simpa using this
    have hks : (l.set i (k, v)).map (·.1) = l.map (·.1) := by
      rw [List.map_set]
      apply List.ext_getElem?
      intro q
      rw [List.getElem?_set]
      split
      · rename_i e; subst e; rw [if_pos (by simpa using hi)]; exact h1.symm
      · rfl
    unfold lkK
    rw [hks]
    by_cases hj : j = k
    · subst hj
      rw [hp, if_pos rfl, Option.bind_some, List.getElem?_set_self hi]; rfl
    · rw [if_neg hj]
      cases hq : posK (l.map (·.1)) j with
      | none => rfl
      | some q =>
        have h2 := posK_some hq
        have hne : i ≠ q := fun e => by subst e; rw [h1] at h2; injection h2 with h2; exact hj h2.symm
        rw [Option.bind_some, Option.bind_some, List.getElem?_set_ne hne]
theorem mapK_push {k : κ} (v : Value) {es : Array MapEntry} (hb : b < w.heap.size) (h2 : es.toList.map (fun e => (e.key, e.val)) = l.map (fun p => (kv p.1, p.2))) (h3 : ∀ (i : Nat) (e : MapEntry), es.toList[i]? = some e → e.born = i) (h4 : (l.map (·.1)).Nodup) (hk : k ∉ l.map (·.1)) :
    MapK kv (w.putObj b (.map (es.push { key := kv k, val := v, born := es.size }) (es.size + 1))) b (l ++ [(k, v)]) := by
  refine ⟨es.push { key := kv k, val := v, born := es.size }, by simp [World.putObj, hb], by simp [h2], fun i e he => ?_, ?_⟩
  · rw [Array.toList_push] at he
    by_cases hi : i < es.toList.length
    · rw [List.getElem?_append_left hi] at he; exact h3 i e he
    · rw [List.getElem?_append_right (by omega)] at he
      obtain ⟨hl, he2⟩ := List.getElem?_eq_some_iff.1 he
      simp at hl he2
      subst he2
      show es.size = i
      simp at hi; omega
  · rw [List.map_append, List.nodup_append]
    exact ⟨h4, by simp, fun a ha b hb e => hk (by simp at hb; subst hb; subst e; exact ha)⟩
theorem mapK_modify {i : Nat} {k : κ} {u : Value} (v : Value) {es : Array MapEntry} (hb : b < w.heap.size) (h2 : es.toList.map (fun e => (e.key, e.val)) = l.map (fun p => (kv p.1, p.2))) (h3 : ∀ (i : Nat) (e : MapEntry), es.toList[i]? = some e → e.born = i) (h4 : (l.map (·.1)).Nodup) (hi : l[i]? = some (k, u))
    {f : MapEntry → MapEntry} (hf : ∀ e : MapEntry, (f e).born = e.born ∧ (e.key = kv k → (f e).key = kv k) ∧ (f e).val = v) :
    MapK kv (w.putObj b (.map (es.modify i f) es.size)) b (l.set i (k, v)) := by
  obtain ⟨e, he, hek, _⟩ := entries_at h2 hi
  have hks : (l.set i (k, v)).map (·.1) = l.map (·.1) := by
    rw [List.map_set]
    apply List.ext_getElem?
    intro q
    rw [List.getElem?_set]
    split
    · rename_i e; subst e; rw [if_pos (by simpa using (List.getElem?_eq_some_iff.1 hi).1), List.getElem?_map, hi]; rfl
    · rfl
  refine ⟨es.modify i f, by simp [World.putObj, hb], ?_, fun q x hx => ?_, by rw [hks]; exact h4⟩
  · rw [Array.toList_modify, List.map_set, ← h2]
    apply List.ext_getElem?
    intro q
    rw [List.getElem?_map, List.getElem?_modify, List.getElem?_set]
    by_cases hq : i = q
    · subst hq
      have hl : i < es.toList.length := (List.getElem?_eq_some_iff.1 he).1
      rw [if_pos rfl, he]
      simp only [Option.map_eq_map, Option.map_some, if_true, (hf e).2.1 hek, (hf e).2.2]
      rw [if_pos (by simpa using hl)]
    · rw [if_neg hq, List.getElem?_map]
      cases es.toList[q]? with
      | none => rfl
      | some x => simp [hq]
  · rw [Array.toList_modify, List.getElem?_modify] at hx
    obtain ⟨y, hy, rfl⟩ := Option.map_eq_some_iff.1 hx
    have := h3 q y hy
    split
    · rw [(hf y).1]; exact this
    · exact this
theorem run_putK [DecidableEq κ] {T K E : TypeId} (hT : Tryd.prog.underlying T = some (.map K E)) (hK : KeyOK K kv) (h : MapK kv w b l) (k : κ) (v : Value) :
    ∃ w', (Instr.mapUpdate T (.map (some b)) (kv k) v).run Tryd.prog w = .ok () w' ∧ MapK kv w' b (putK l k v) ∧ w.grownBy w' (some b) := by
  have hlt := h.lt
  obtain ⟨es, h1, h2, h3, h4⟩ := h
  have hg := MapKept.run_getObj_map (P := Tryd.prog) h1
  have hf := run_findL hK h2 k w
  unfold putK
  cases hp : posK (l.map (·.1)) k with
  | none =>
    rw [hp] at hf
    refine ⟨w.putObj b (.map (es.push { key := kv k, val := v, born := es.size }) (es.size + 1)), ?_, mapK_push v hlt h2 h3 h4 (posK_none hp), grownBy_putObj' w b _⟩
    unfold Instr.mapUpdate
    simp [run_underlying hT, hg, hK.check, hf, MapKept.run_setObj_map _ h1, World.putObj]
  | some i =>
    rw [hp] at hf
    have h5 := posK_some hp
    rw [List.getElem?_map] at h5
    obtain ⟨⟨k', u⟩, hp1, hp2⟩ := Option.map_eq_some_iff.1 h5
    dsimp only at hp2; subst hp2
    obtain ⟨e, he, hek, _⟩ := entries_at h2 hp1
    refine ⟨w.putObj b (.map (es.modify i fun e => { e with key := kv k', val := v }) es.size), ?_, mapK_modify v hlt h2 h3 h4 hp1 (fun e => ⟨rfl, fun _ => rfl, rfl⟩), grownBy_putObj' w b _⟩
    unfold Instr.mapUpdate
    have hj : es[i]? = some e := by simpa using he
    simp [run_underlying hT, hg, hK.check, hf, hp1, hj, hek, run_staysK hK, MapKept.run_setObj_map _ h1, World.putObj]
/-- An entry made ready, then set: 'm[k] op= v'. -/
theorem run_entryK [DecidableEq κ] {T K E : TypeId} (hT : Tryd.prog.underlying T = some (.map K E)) (hK : KeyOK K kv) (z : Value) (hz : ∀ w, (zeroValue E).run Tryd.prog w = .ok z w) (h : MapK kv w b l) (k : κ) :
    ∃ (w' : World) (i : Nat), (Instr.mapEntry T (.map (some b)) (kv k)).run Tryd.prog w = .ok (.tuple #[(lkK l k).getD z, .int .i64 (i : Int)]) w' ∧ MapK kv w' b (putK l k ((lkK l k).getD z)) ∧ w.grownBy w' (some b) ∧ posK ((putK l k ((lkK l k).getD z)).map (·.1)) k = some i := by
  have hlt := h.lt
  obtain ⟨es, h1, h2, h3, h4⟩ := h
  have hg := MapKept.run_getObj_map (P := Tryd.prog) h1
  have hf := run_findL hK h2 k w
  unfold putK
  cases hp : posK (l.map (·.1)) k with
  | none =>
    rw [hp] at hf
    have hk := posK_none hp
    have hlk : lkK l k = none := by unfold lkK; rw [hp]; rfl
    have hes : es.size = l.length := by have := congrArg List.length h2; simpa using this
    rw [hlk]
    refine ⟨w.putObj b (.map (es.push { key := kv k, val := z, born := es.size }) (es.size + 1)), es.size, ?_, mapK_push z hlt h2 h3 h4 hk, grownBy_putObj' w b _, ?_⟩
    · unfold Instr.mapEntry
      simp [run_underlying hT, hg, hK.check, hf, hz, MapKept.run_setObj_map _ h1, World.putObj, goInt]
    · dsimp only
      rw [List.map_append]
      refine posK_of (by rw [List.nodup_append]; exact ⟨h4, by simp, fun a ha b hb e => hk (by simp at hb; subst hb; subst e; exact ha)⟩) ?_
      rw [List.getElem?_append_right (by simp; omega)]; simp [hes]
  | some i =>
    rw [hp] at hf
    have h5 := posK_some hp
    rw [List.getElem?_map] at h5
    obtain ⟨⟨k', u⟩, hp1, hp2⟩ := Option.map_eq_some_iff.1 h5
    dsimp only at hp2; subst hp2
    obtain ⟨e, he, hek, hev⟩ := entries_at h2 hp1
    have hlk : lkK l k' = some u := by unfold lkK; rw [hp, Option.bind_some, hp1]; rfl
    have hj : es[i]? = some e := by simpa using he
    have hborn := h3 i e he
    rw [hlk]
    have hset : l.set i (k', u) = l := by
      apply List.ext_getElem?
      intro q
      rw [List.getElem?_set]
      split
      · rename_i e; subst e; rw [if_pos (List.getElem?_eq_some_iff.1 hp1).1]; exact hp1.symm
      · rfl
    refine ⟨w.putObj b (.map (es.modify i fun e => { e with key := kv k' }) es.size), i, ?_, ?_, grownBy_putObj' w b _, ?_⟩
    · unfold Instr.mapEntry
      simp [run_underlying hT, hg, hK.check, hf, hp1, hj, hek, run_staysK hK, MapKept.run_setObj_map _ h1, World.putObj, goInt, hborn]
    · have hm := mapK_modify (w := w) u hlt h2 h3 h4 hp1 (f := fun x => { x with key := kv k', val := u }) (fun e => ⟨rfl, fun _ => rfl, rfl⟩)
      have : es.modify i (fun x => { x with key := kv k', val := u }) = es.modify i (fun x => { x with key := kv k' }) := by
        apply Array.ext_getElem?
        intro q
        rw [Array.getElem?_modify, Array.getElem?_modify]
        by_cases hq : i = q
        · subst hq; rw [if_pos rfl, if_pos rfl, hj]; rw [Option.map_some, Option.map_some, show e.val = u from hev]
        · rw [if_neg hq, if_neg hq]
      rw [this] at hm
      exact hm
    · dsimp only [Option.getD_some]
      rw [hset]; exact hp
theorem run_entryStoreK [DecidableEq κ] {T : TypeId} (h : MapK kv w b l) {k : κ} {i : Nat} (hi : posK (l.map (·.1)) k = some i) (v : Value) :
    ∃ w', (Instr.entryStore T (.map (some b)) (.int .i64 (i : Int)) v).run Tryd.prog w = .ok () w' ∧ MapK kv w' b (putK l k v) ∧ w.grownBy w' (some b) := by
  have hlt := h.lt
  obtain ⟨es, h1, h2, h3, h4⟩ := h
  have hg := MapKept.run_getObj_map (P := Tryd.prog) h1
  have h5 := posK_some hi
  rw [List.getElem?_map] at h5
  obtain ⟨⟨k', u⟩, hp1, hp2⟩ := Option.map_eq_some_iff.1 h5
  dsimp only at hp2; subst hp2
  obtain ⟨e, he, hek, hev⟩ := entries_at h2 hp1
  have hl : i < es.size := by have := (List.getElem?_eq_some_iff.1 he).1; simpa using this
  have hfi : es.findIdx? (fun e => (e.born : Int) == (i : Int)) = some i := by
    rw [Array.findIdx?_eq_some_iff_getElem]
    refine ⟨hl, ?_, fun j hj => ?_⟩
    · have := h3 i es[i] (by simp [hl]); simp [this]
    · have := h3 j es[j] (by simp [show j < es.size by omega]); simp [this]; omega
  refine ⟨w.putObj b (.map (es.modify i fun e => { e with val := v }) es.size), ?_, ?_, grownBy_putObj' w b _⟩
  · unfold Instr.entryStore
    simp [hg, asInt, asIntOf, hfi, MapKept.run_setObj_map _ h1, World.putObj]
  · unfold putK
    rw [hi]
    exact mapK_modify v hlt h2 h3 h4 hp1 (fun e => ⟨rfl, id, rfl⟩)
end

end Go.Proofs.YtgcmedkaadagmaaDoor
