/- Walks: a state's text. -/
import Derived.Test.YtkmdakampkfioaaGreatDoorV3
import Derived.Laws.BytesArg
import Derived.Maps.Own
import Derived.Maps.OwnOps
import Derived.Maps.OwnSet
namespace Go.Proofs.YtkmdakampkfioaaGreatDoor
open Go.RowKit Go.Shelf
def byteL (x i : Nat) : Int := ((x : Int) / 2 ^ (8 * i) % 256)
def textN (p : Nat × Nat) : List Int := (List.range 8).map (byteL p.1) ++ (List.range 8).map (byteL p.2)
def textS (p : Nat × Nat) : ByteArray := strOfNums (textN p)
def textK (m r k i : Nat) : Int := if i < 8 then (if i < k then byteL m i else 0) else if i < 8 + k then byteL r (i - 8) else 0
theorem textK_0 (m r i : Nat) : textK m r 0 i = 0 := by
 unfold textK; split
 ·rfl
 ·simp
theorem textK_next {m r k : Nat} {cs : Array Value} (hk : k < 8) (hs : cs.size = 16) (h : ∀ i, i < 16 → cs[i]? = some (.int .u8 (textK m r k i))) {i : Nat} (hi : i < 16) :
  ((cs.setIfInBounds k (.int .u8 (byteL m k))).setIfInBounds (8 + k) (.int .u8 (byteL r k)))[i]? = some (.int .u8 (textK m r (k + 1) i)) := by
 rw [Array.getElem?_setIfInBounds, Array.getElem?_setIfInBounds];simp only [Array.size_setIfInBounds, hs];by_cases h1 : 8 + k = i
 ·subst h1;rw [if_pos rfl, if_pos (by omega)];unfold textK;rw [if_neg (by omega), if_pos (by omega), show 8 + k - 8 = k by omega]
 ·rw [if_neg h1];by_cases h2 : k = i
  ·subst h2;rw [if_pos rfl, if_pos (by omega)];unfold textK;rw [if_pos (by omega), if_pos (by omega)]
  ·rw [if_neg h2, h i hi];unfold textK;congr 2;by_cases h3 : i < 8
   ·rw [if_pos h3, if_pos h3];by_cases h4 : i < k
    ·rw [if_pos h4, if_pos (by omega)]
    ·rw [if_neg h4, if_neg (by omega)]
   ·rw [if_neg h3, if_neg h3];by_cases h4 : i < 8 + k
    ·rw [if_pos h4, if_pos (by omega)]
    ·rw [if_neg h4, if_neg (by omega)]
theorem textN_at (m r i : Nat) (hi : i < 16) : some (Value.int .u8 (textK m r 8 i)) = some (Value.int .u8 ((textN (m, r)).getD i 0)) := by
 congr 2
 match i, hi with
 | 0, _ | 1, _ | 2, _ | 3, _ | 4, _ | 5, _ | 6, _ | 7, _ | 8, _ | 9, _ | 10, _ | 11, _ | 12, _ | 13, _ | 14, _ | 15, _ => rfl
 | j + 16, hj => exact absurd hj (by omega)
theorem bytes_inj {x y : Nat} (hx : x < 18446744073709551616) (hy : y < 18446744073709551616) (h : (List.range 8).map (byteL x) = (List.range 8).map (byteL y)) : x = y := by
 have g : ∀ i, i < 8 → byteL x i = byteL y i := fun i hi => List.map_inj_left.1 h i (List.mem_range.2 hi);have g0 := g 0 (by omega);have g1 := g 1 (by omega);have g2 := g 2 (by omega);have g3 := g 3 (by omega);have g4 := g 4 (by omega);have g5 := g 5 (by omega);have g6 := g 6 (by omega);have g7 := g 7 (by omega);unfold byteL at g0 g1 g2 g3 g4 g5 g6 g7;simp only [Nat.mul_zero, Nat.reduceMul, Int.reducePow] at g0 g1 g2 g3 g4 g5 g6 g7;omega
theorem byteL_range (x i : Nat) : 0 ≤ byteL x i ∧ byteL x i < 256 := by unfold byteL; omega
theorem textN_inj {p q : Nat × Nat} (h1 : p.1 < 18446744073709551616) (h2 : p.2 < 18446744073709551616) (h3 : q.1 < 18446744073709551616) (h4 : q.2 < 18446744073709551616) (h : textN p = textN q) : p = q := by
 unfold textN at h;obtain ⟨a, b⟩ := List.append_inj h (by simp);exact Prod.ext (bytes_inj h1 h3 a) (bytes_inj h2 h4 b)
theorem strOfNums_inj {xs ys : List Int} (hx : ∀ x ∈ xs, 0 ≤ x ∧ x < 256) (hy : ∀ x ∈ ys, 0 ≤ x ∧ x < 256) (h : strOfNums xs = strOfNums ys) : xs = ys := by
 unfold strOfNums at h;have h1 : xs.map (fun n => UInt8.ofNat n.toNat) = ys.map (fun n => UInt8.ofNat n.toNat) := by
  simpa using h
 have key : ∀ a b : Int, 0 ≤ a → a < 256 → 0 ≤ b → b < 256 → UInt8.ofNat a.toNat = UInt8.ofNat b.toNat → a = b := fun a b a0 a1 b0 b1 e => by
  have := congrArg UInt8.toNat e;simp at this;omega
 clear h
 induction xs generalizing ys with
 | nil => cases ys with
  | nil => rfl
  | cons y ys => simp at h1
 | cons x xs ih => cases ys with
  | nil => simp at h1
  | cons y ys =>
   simp only [List.map_cons, List.cons.injEq] at h1;obtain ⟨a0, a1⟩ := hx x (List.mem_cons_self ..);obtain ⟨b0, b1⟩ := hy y (List.mem_cons_self ..);rw [key x y a0 a1 b0 b1 h1.1, ih (fun z hz => hx z (List.mem_cons_of_mem _ hz)) (fun z hz => hy z (List.mem_cons_of_mem _ hz)) h1.2]
theorem textS_inj {p q : Nat × Nat} (h1 : p.1 < 18446744073709551616) (h2 : p.2 < 18446744073709551616) (h3 : q.1 < 18446744073709551616) (h4 : q.2 < 18446744073709551616) (h : textS p = textS q) : p = q := by
 have hr : ∀ p : Nat × Nat, ∀ x ∈ textN p, 0 ≤ x ∧ x < 256 := fun p x hx => by
  unfold textN at hx;rcases List.mem_append.1 hx with hx | hx
  all_goals
   obtain ⟨i, _, rfl⟩ := List.mem_map.1 hx;exact byteL_range _ _
 exact textN_inj h1 h2 h3 h4 (strOfNums_inj (hr p) (hr q) h)
set_option maxRecDepth 100000 in
set_option maxHeartbeats 1000000 in
theorem text_c (m r : Nat) (w : World) :
  Calls Tryz.prog 39 #[.agg #[.int .i64 (m : Int), .int .u64 (r : Int)]] w fun e w' => e = .returned (.string (textS (m, r))) ∧ Below w.heap.size w w' := by
 go_enter Tryz.func39, Tryz.ntmps39;go_wp2;go_loopw [5] (fun iv wr => ∃ (k : Nat) (cs : Array Value), k ≤ 8 ∧ iv = .int .i64 k ∧ Bk wr w.heap.size 130 #[.int .i64 (m : Int), .int .u64 (r : Int)] ∧ Bk wr (w.heap.size + 1) 186 cs ∧ cs.size = 16 ∧ (∀ i, i < 16 → cs[i]? = some (.int .u8 (textK m r k i))) ∧ Below w.heap.size w wr) (fun iv _ => 8 - (intOf iv).toNat)
 case atStart =>
  refine ⟨0, _, by omega, rfl, ((Bk.new w 130 #[.int .i64 (m : Int), .int .u64 (r : Int)]).alloc _), by have h := Bk.new (w.alloc (.cells #[.int .i64 (m : Int), .int .u64 (r : Int)] 130)) 186 #[.int .u8 0, .int .u8 0, .int .u8 0, .int .u8 0, .int .u8 0, .int .u8 0, .int .u8 0, .int .u8 0, .int .u8 0, .int .u8 0, .int .u8 0, .int .u8 0, .int .u8 0, .int .u8 0, .int .u8 0, .int .u8 0]; simpa using h, rfl, fun i hi => ?_, below_lit _ _ (below_lit _ _ (Below.refl _ _) _) _⟩;rw [textK_0 m r i]
  match i, hi with
  | 0, _ | 1, _ | 2, _ | 3, _ | 4, _ | 5, _ | 6, _ | 7, _ | 8, _ | 9, _ | 10, _ | 11, _ | 12, _ | 13, _ | 14, _ | 15, _ => rfl
  | j + 16, hj => exact absurd hj (by omega)
 case round =>
  obtain ⟨k, cs, hk, rfl, hp, hb, hsz, hcs, hbr⟩ := hrel;have HCS := Lib.hid hcs; clear hcs;have p0 : wr.cell? ⟨w.heap.size, 0, none⟩ = some (.int .i64 (m : Int)) := hp.cell 0;have p1 : wr.cell? ⟨w.heap.size, 1, none⟩ = some (.int .u64 (r : Int)) := hp.cell 1;by_cases hlt : k < 8
  ·have b0 := (hb.cell k).trans (HCS.out k (by omega));have b1 := (hb.cell (8 + k)).trans (HCS.out (8 + k) (by omega));have f0 := hb.frozen k;have f1 := hb.frozen (8 + k);have kz : (0 : Int) ≤ (k : Int) := by omega
   have kn : (k : Int) < 8 := by omega
   go_wp2;go_roundw
   case rel =>
    refine ⟨k + 1, _, by omega, by go_num, (hp.far (p := ⟨w.heap.size + 1, k, none⟩) (by simp) _).far (p := ⟨w.heap.size + 1, 8 + k, none⟩) (by simp) _, (hb.set_ k _).set_ (8 + k) _, by simp [hsz], fun i hi => ?_, (hbr.setCell (p := ⟨w.heap.size + 1, k, none⟩) (by simp) _).setCell (p := ⟨w.heap.size + 1, 8 + k, none⟩) (by simp) _⟩;exact textK_next hlt hsz HCS.out hi
   case measure => simp [intOf]; omega
  ·obtain rfl : k = 8 := by omega
   have hc := run_convert_bytes_arg wr 75 5 Tryz.underlying75 Tryz.underlying5 (w.heap.size + 1) 0 16 16 (textN (m, r)) rfl (fun i hi => (hb.cell (0 + i)).trans (by rw [Nat.zero_add, HCS.out i hi, textN_at m r i hi])) 9 Tryz.underlying9;clear hlt;go_wp2;go_ret;exact ⟨rfl, hbr⟩
open Go.RowKit Go.Shelf Go.Maps
section
variable {κ : Type}
def posK [DecidableEq κ] (es : List κ) (k : κ) : Option Nat := es.idxOf? k
theorem posK_some [DecidableEq κ] {es : List κ} {k : κ} {i : Nat} (h : posK es k = some i) : es[i]? = some k := by
 unfold posK at h;rw [List.idxOf?, List.findIdx?_eq_some_iff_getElem] at h;obtain ⟨h1, h2, _⟩ := h;rw [List.getElem?_eq_getElem h1]; simpa using h2
theorem posK_none [DecidableEq κ] {es : List κ} {k : κ} (h : posK es k = none) : k ∉ es := by
 unfold posK at h; rwa [List.idxOf?_eq_none_iff] at h
theorem posK_of [DecidableEq κ] {es : List κ} {k : κ} {i : Nat} (hn : es.Nodup) (h : es[i]? = some k) : posK es k = some i := by
 cases hp : posK es k with
 | none => exact absurd (List.mem_of_getElem? h) (posK_none hp)
 | some j =>
  have hj := posK_some hp;have := (List.getElem?_inj (List.getElem?_eq_some_iff.1 hj).1 hn).1 (hj.trans h.symm);rw [this]
structure KeyOK [DecidableEq κ] (keyT : TypeId) (kv : κ → Value) : Prop where
 check : ∀ (em : Bool) (k : κ) (w : World), (Instr.checkKey em 10000 keyT (kv k)).run Tryz.prog w = .ok () w
 find : ∀ (es : List MapEntry) (ks : List κ) (k : κ) (w : World), es.map (·.key) = ks.map kv → (Instr.findKey keyT (kv k) es).run Tryz.prog w = .ok (match posK ks k with | some i => (es[i]?).map (fun e => (i, e.val)) | none => none) w
 stays : ∀ k : κ, Instr.sameBits 10000 (kv k) (kv k) = true
theorem posK_cons [DecidableEq κ] (a : κ) (es : List κ) (k : κ) : posK (a :: es) k = if a = k then some 0 else (posK es k).map (· + 1) := by
 unfold posK;rw [List.idxOf?_cons];by_cases h : a = k <;> simp [h]
theorem findNow_pos [DecidableEq κ] {kind : TypeDesc} {kv : κ → Value} (h : ∀ a b : κ, Instr.sameNow kind (kv a) (kv b) = some (decide (a = b))) (k : κ) : ∀ (es : List MapEntry) (ks : List κ) (i : Nat), es.map (·.key) = ks.map kv →
  Instr.findNow kind (kv k) es i = some (match posK ks k with | some j => (es[j]?).map (fun e => (i + j, e.val)) | none => none)
 | [], [], i, _ => rfl
 | [], _ :: _, i, e => by simp at e
 | _ :: _, [], i, e => by simp at e
 | e :: es, a :: ks, i, he => by
  simp only [List.map_cons, List.cons.injEq] at he;obtain ⟨h1, h2⟩ := he;unfold Instr.findNow;rw [h1, h k a, posK_cons];by_cases hk : k = a
  ·subst hk; simp
  ·have hk' : ¬ a = k := fun e => hk e.symm;simp only [hk, decide_false, if_neg hk'];rw [findNow_pos h k es ks (i + 1) h2];cases posK ks k with
   | none => rfl
   | some j => simp [Nat.add_assoc, Nat.add_comm 1 j]
theorem findAsk_pos [DecidableEq κ] {keyT : TypeId} {kv : κ → Value} (h : ∀ (a b : κ) (w : World), (Op.equal keyT (kv a) (kv b)).run Tryz.prog w = .ok (decide (a = b)) w) (k : κ) (w : World) : ∀ (es : List MapEntry) (ks : List κ) (i : Nat), es.map (·.key) = ks.map kv →
  (Instr.findAsking keyT (kv k) es i).run Tryz.prog w = .ok (match posK ks k with | some j => (es[j]?).map (fun e => (i + j, e.val)) | none => none) w
 | [], [], i, _ => by unfold Instr.findAsking; simp [posK, Sem.run_pure]
 | [], _ :: _, i, e => by simp at e
 | _ :: _, [], i, e => by simp at e
 | e :: es, a :: ks, i, he => by
  simp only [List.map_cons, List.cons.injEq] at he;obtain ⟨h1, h2⟩ := he;unfold Instr.findAsking;rw [Sem.run_bind, h1, h k a, posK_cons];by_cases hk : k = a
  ·subst hk; simp [Sem.run_pure]
  ·have hk' : ¬ a = k := fun e => hk e.symm;simp only [hk, decide_false, if_neg hk', Result.andThen_ok, Bool.false_eq_true, if_false];rw [findAsk_pos h k w es ks (i + 1) h2];cases posK ks k with
   | none => rfl
   | some j => simp [Nat.add_assoc, Nat.add_comm 1 j]
theorem KeyOK.ofNow [DecidableEq κ] {keyT : TypeId} {kind : TypeDesc} {kv : κ → Value} (ht : Tryz.prog.underlying keyT = some kind) (h : ∀ a b : κ, Instr.sameNow kind (kv a) (kv b) = some (decide (a = b)))
  (hc : ∀ (em : Bool) (k : κ) (w : World), (Instr.checkKey em 10000 keyT (kv k)).run Tryz.prog w = .ok () w) (hs : ∀ k : κ, Instr.sameBits 10000 (kv k) (kv k) = true) : KeyOK keyT kv :=
 ⟨hc, fun es ks k w e => by
  unfold Instr.findKey;rw [Sem.run_bind, run_underlying ht, Result.andThen_ok, findNow_pos h k es ks 0 e];simp [Sem.run_pure], hs⟩
theorem KeyOK.ofAsk [DecidableEq κ] {keyT : TypeId} {kind : TypeDesc} {kv : κ → Value} (ht : Tryz.prog.underlying keyT = some kind) (h0 : ∀ a b : κ, Instr.sameNow kind (kv a) (kv b) = none) (h : ∀ (a b : κ) (w : World), (Op.equal keyT (kv a) (kv b)).run Tryz.prog w = .ok (decide (a = b)) w)
  (hc : ∀ (em : Bool) (k : κ) (w : World), (Instr.checkKey em 10000 keyT (kv k)).run Tryz.prog w = .ok () w) (hs : ∀ k : κ, Instr.sameBits 10000 (kv k) (kv k) = true) : KeyOK keyT kv :=
 ⟨hc, fun es ks k w e => by
  unfold Instr.findKey;rw [Sem.run_bind, run_underlying ht, Result.andThen_ok];have hf := findAsk_pos h k w es ks 0 e;cases es with
  | nil =>
   cases ks with
   | nil => simp [Instr.findNow, Sem.run_pure, posK]
   | cons a ks => simp at e
  | cons x es =>
   cases ks with
   | nil => simp at e
   | cons a ks =>
    have hx : x.key = kv a := by simp at e; exact e.1
    have hn : Instr.findNow kind (kv k) (x :: es) 0 = none := by unfold Instr.findNow; rw [hx, h0]
    rw [hn];dsimp only;rw [hf];simp, hs⟩
def MapK (kv : κ → Value) (w : World) (b : Nat) (l : List (κ × Value)) : Prop :=
 ∃ es : Array MapEntry, w.heap[b]? = some (.map es es.size) ∧ es.toList.map (fun e => (e.key, e.val)) = l.map (fun p => (kv p.1, p.2)) ∧ (∀ (i : Nat) (e : MapEntry), es.toList[i]? = some e → e.born = i) ∧ (l.map (·.1)).Nodup
def lkK [DecidableEq κ] (l : List (κ × Value)) (k : κ) : Option Value := (posK (l.map (·.1)) k).bind fun i => (l[i]?).map (·.2)
variable {kv : κ → Value} {w w' : World} {b : Nat} {l : List (κ × Value)}
theorem MapK.lt (h : MapK kv w b l) : b < w.heap.size := by obtain ⟨es, h, _⟩ := h; exact (Array.getElem?_eq_some_iff.1 h).1
theorem MapK.new (kv : κ → Value) (w : World) : MapK kv (w.alloc (.map #[] 0)) w.heap.size ([] : List (κ × Value)) := ⟨#[], heap_alloc_new w _, rfl, (fun i e h => by simp at h), by simp⟩
theorem MapK.keep (h : MapK kv w b l) (hk : w'.heap[b]? = w.heap[b]?) : MapK kv w' b l := by
 obtain ⟨es, h1, h2⟩ := h;exact ⟨es, hk.trans h1, h2⟩
theorem MapK.notCells (h : MapK kv w b l) {cs : Array Value} {t : TypeId} {fr : Nat × Nat} (hc : w.heap[b]? = some (.cells cs t fr)) : False := by
 obtain ⟨es, h1, _⟩ := h;rw [hc] at h1; injection h1 with h1; cases h1
theorem entries_at {es : List MapEntry} (h : es.map (fun e => (e.key, e.val)) = l.map (fun p => (kv p.1, p.2))) {i : Nat} {p : κ × Value} (hp : l[i]? = some p) : ∃ e, es[i]? = some e ∧ e.key = kv p.1 ∧ e.val = p.2 := by
 have := congrArg (fun x => x[i]?) h;simp only [List.getElem?_map, hp, Option.map_some] at this;cases he : es[i]? with
 | none => rw [he] at this; simp at this
 | some e => rw [he] at this; simp at this; exact ⟨e, rfl, this⟩
theorem entries_keys {es : List MapEntry} (h : es.map (fun e => (e.key, e.val)) = l.map (fun p => (kv p.1, p.2))) : es.map (·.key) = (l.map (·.1)).map kv := by
 have := congrArg (List.map Prod.fst) h;rw [List.map_map, List.map_map] at this;rw [List.map_map];exact this
theorem run_findL [DecidableEq κ] {keyT : TypeId} (hK : KeyOK keyT kv) {es : List MapEntry} (h : es.map (fun e => (e.key, e.val)) = l.map (fun p => (kv p.1, p.2))) (k : κ) (w : World) :
  (Instr.findKey keyT (kv k) es).run Tryz.prog w = .ok (match posK (l.map (·.1)) k with | some i => (l[i]?).map (fun p => (i, p.2)) | none => none) w := by
 rw [hK.find es (l.map (·.1)) k w (entries_keys h)];congr 1;cases hp : posK (l.map (·.1)) k with
 | none => rfl
 | some i =>
  have h1 := posK_some hp;rw [List.getElem?_map] at h1;obtain ⟨p, hp1, _⟩ := Option.map_eq_some_iff.1 h1;obtain ⟨e, he, _, hv⟩ := entries_at h hp1;dsimp only;rw [he, hp1];simp [hv]
theorem run_lookK [DecidableEq κ] {T K E : TypeId} (hT : Tryz.prog.underlying T = some (.map K E)) (hK : KeyOK K kv) (z : Value) (hz : ∀ w, (zeroValue E).run Tryz.prog w = .ok z w) (h : MapK kv w b l) (k : κ) (ok : Bool) :
  (Instr.lookup T (.map (some b)) (kv k) ok).run Tryz.prog w = .ok (if ok then .tuple #[(lkK l k).getD z, .bool (lkK l k).isSome] else (lkK l k).getD z) w := by
 obtain ⟨es, h1, h2, _⟩ := h;have hg := MapKept.run_getObj_map (P := Tryz.prog) h1;have hf := run_findL hK h2 k w;unfold Instr.lookup;unfold lkK;cases hp : posK (l.map (·.1)) k with
 | none =>
  rw [hp] at hf;simp [run_underlying hT, hg, hK.check, hf, hz]
 | some i =>
  rw [hp] at hf;have h3 := posK_some hp;rw [List.getElem?_map] at h3;obtain ⟨p, hp1, _⟩ := Option.map_eq_some_iff.1 h3;simp [run_underlying hT, hg, hK.check, hf, hp1]
theorem run_staysK [DecidableEq κ] {keyT : TypeId} (hK : KeyOK keyT kv) (k : κ) (w : World) : (Instr.keyThatStays (kv k) (kv k)).run Tryz.prog w = .ok (kv k) w := by
 unfold Instr.keyThatStays; simp [hK.stays]
def putK [DecidableEq κ] (l : List (κ × Value)) (k : κ) (v : Value) : List (κ × Value) :=
 match posK (l.map (·.1)) k with
 | some i => l.set i (k, v)
 | none => l ++ [(k, v)]
theorem lkK_put [DecidableEq κ] (hn : (l.map (·.1)).Nodup) (k : κ) (v : Value) (j : κ) : lkK (putK l k v) j = if j = k then some v else lkK l j := by
 unfold putK;cases hp : posK (l.map (·.1)) k with
 | none =>
  dsimp only;have hk := posK_none hp;unfold lkK;rw [List.map_append];by_cases hj : j = k
  ·subst hj;have : posK (l.map (·.1) ++ [j]) j = some l.length := posK_of (by rw [List.nodup_append]; exact ⟨hn, by simp, fun a ha b hb e => hk (by simp at hb; subst hb; subst e; exact ha)⟩) (by rw [List.getElem?_append_right (by simp)]; simp);simp only [List.map_cons, List.map_nil, this, if_true]; simp
  ·rw [if_neg hj];cases hq : posK (l.map (·.1)) j with
   | none =>
    have : posK (l.map (·.1) ++ [k]) j = none := by
     unfold posK; rw [List.idxOf?_eq_none_iff];intro hm;rcases List.mem_append.1 hm with hm | hm
     ·exact posK_none hq hm
     ·simp at hm; exact hj hm
    simp only [List.map_cons, List.map_nil, this]; rfl
   | some i =>
    have h1 := posK_some hq;have hi : i < l.length := by have := (List.getElem?_eq_some_iff.1 h1).1; simpa using this
    have : posK (l.map (·.1) ++ [k]) j = some i := posK_of (by rw [List.nodup_append]; exact ⟨hn, by simp, fun a ha b hb e => hk (by simp at hb; subst hb; subst e; exact ha)⟩) (by rw [List.getElem?_append_left (by simpa using hi)]; exact h1);simp only [List.map_cons, List.map_nil, this, Option.bind_some];rw [List.getElem?_append_left hi]
 | some i =>
  dsimp only;have h1 := posK_some hp;have hi : i < l.length := by have := (List.getElem?_eq_some_iff.1 h1).1; simpa using this
  have hks : (l.set i (k, v)).map (·.1) = l.map (·.1) := by
   rw [List.map_set];apply List.ext_getElem?;intro q;rw [List.getElem?_set];split
   ·rename_i e; subst e; rw [if_pos (by simpa using hi)]; exact h1.symm
   ·rfl
  unfold lkK;rw [hks];by_cases hj : j = k
  ·subst hj;rw [hp, if_pos rfl, Option.bind_some, List.getElem?_set_self hi]; rfl
  ·rw [if_neg hj];cases hq : posK (l.map (·.1)) j with
   | none => rfl
   | some q =>
    have h2 := posK_some hq;have hne : i ≠ q := fun e => by subst e; rw [h1] at h2; injection h2 with h2; exact hj h2.symm
    rw [Option.bind_some, Option.bind_some, List.getElem?_set_ne hne]
theorem mapK_push {k : κ} (v : Value) {es : Array MapEntry} (hb : b < w.heap.size) (h2 : es.toList.map (fun e => (e.key, e.val)) = l.map (fun p => (kv p.1, p.2))) (h3 : ∀ (i : Nat) (e : MapEntry), es.toList[i]? = some e → e.born = i) (h4 : (l.map (·.1)).Nodup) (hk : k ∉ l.map (·.1)) :
  MapK kv (w.putObj b (.map (es.push { key := kv k, val := v, born := es.size }) (es.size + 1))) b (l ++ [(k, v)]) := by
 refine ⟨es.push { key := kv k, val := v, born := es.size }, by simp [World.putObj, hb], by simp [h2], fun i e he => ?_, ?_⟩
 ·rw [Array.toList_push] at he;by_cases hi : i < es.toList.length
  ·rw [List.getElem?_append_left hi] at he; exact h3 i e he
  ·rw [List.getElem?_append_right (by omega)] at he;obtain ⟨hl, he2⟩ := List.getElem?_eq_some_iff.1 he;simp at hl he2;subst he2;show es.size = i
   simp at hi; omega
 ·rw [List.map_append, List.nodup_append];exact ⟨h4, by simp, fun a ha b hb e => hk (by simp at hb; subst hb; subst e; exact ha)⟩
theorem mapK_modify {i : Nat} {k : κ} {u : Value} (v : Value) {es : Array MapEntry} (hb : b < w.heap.size) (h2 : es.toList.map (fun e => (e.key, e.val)) = l.map (fun p => (kv p.1, p.2))) (h3 : ∀ (i : Nat) (e : MapEntry), es.toList[i]? = some e → e.born = i) (h4 : (l.map (·.1)).Nodup) (hi : l[i]? = some (k, u))
  {f : MapEntry → MapEntry} (hf : ∀ e : MapEntry, (f e).born = e.born ∧ (e.key = kv k → (f e).key = kv k) ∧ (f e).val = v) :
  MapK kv (w.putObj b (.map (es.modify i f) es.size)) b (l.set i (k, v)) := by
 obtain ⟨e, he, hek, _⟩ := entries_at h2 hi;have hks : (l.set i (k, v)).map (·.1) = l.map (·.1) := by
  rw [List.map_set];apply List.ext_getElem?;intro q;rw [List.getElem?_set];split
  ·rename_i e; subst e; rw [if_pos (by simpa using (List.getElem?_eq_some_iff.1 hi).1), List.getElem?_map, hi]; rfl
  ·rfl
 refine ⟨es.modify i f, by simp [World.putObj, hb], ?_, fun q x hx => ?_, by rw [hks]; exact h4⟩
 ·rw [Array.toList_modify, List.map_set, ← h2];apply List.ext_getElem?;intro q;rw [List.getElem?_map, List.getElem?_modify, List.getElem?_set];by_cases hq : i = q
  ·subst hq;have hl : i < es.toList.length := (List.getElem?_eq_some_iff.1 he).1;rw [if_pos rfl, he];simp only [Option.map_eq_map, Option.map_some, if_true, (hf e).2.1 hek, (hf e).2.2];rw [if_pos (by simpa using hl)]
  ·rw [if_neg hq, List.getElem?_map];cases es.toList[q]? with
   | none => rfl
   | some x => simp [hq]
 ·rw [Array.toList_modify, List.getElem?_modify] at hx;obtain ⟨y, hy, rfl⟩ := Option.map_eq_some_iff.1 hx;have := h3 q y hy;split
  ·rw [(hf y).1]; exact this
  ·exact this
theorem run_putK [DecidableEq κ] {T K E : TypeId} (hT : Tryz.prog.underlying T = some (.map K E)) (hK : KeyOK K kv) (h : MapK kv w b l) (k : κ) (v : Value) :
  ∃ w', (Instr.mapUpdate T (.map (some b)) (kv k) v).run Tryz.prog w = .ok () w' ∧ MapK kv w' b (putK l k v) ∧ w.grownBy w' (some b) := by
 have hlt := h.lt;obtain ⟨es, h1, h2, h3, h4⟩ := h;have hg := MapKept.run_getObj_map (P := Tryz.prog) h1;have hf := run_findL hK h2 k w;unfold putK;cases hp : posK (l.map (·.1)) k with
 | none =>
  rw [hp] at hf;refine ⟨w.putObj b (.map (es.push { key := kv k, val := v, born := es.size }) (es.size + 1)), ?_, mapK_push v hlt h2 h3 h4 (posK_none hp), grownBy_putObj' w b _⟩;unfold Instr.mapUpdate;simp [run_underlying hT, hg, hK.check, hf, MapKept.run_setObj_map _ h1, World.putObj]
 | some i =>
  rw [hp] at hf;have h5 := posK_some hp;rw [List.getElem?_map] at h5;obtain ⟨⟨k', u⟩, hp1, hp2⟩ := Option.map_eq_some_iff.1 h5;dsimp only at hp2; subst hp2;obtain ⟨e, he, hek, _⟩ := entries_at h2 hp1;refine ⟨w.putObj b (.map (es.modify i fun e => { e with key := kv k', val := v }) es.size), ?_, mapK_modify v hlt h2 h3 h4 hp1 (fun e => ⟨rfl, fun _ => rfl, rfl⟩), grownBy_putObj' w b _⟩;unfold Instr.mapUpdate;have hj : es[i]? = some e := by simpa using he
  simp [run_underlying hT, hg, hK.check, hf, hp1, hj, hek, run_staysK hK, MapKept.run_setObj_map _ h1, World.putObj]
theorem run_entryK [DecidableEq κ] {T K E : TypeId} (hT : Tryz.prog.underlying T = some (.map K E)) (hK : KeyOK K kv) (z : Value) (hz : ∀ w, (zeroValue E).run Tryz.prog w = .ok z w) (h : MapK kv w b l) (k : κ) :
  ∃ (w' : World) (i : Nat), (Instr.mapEntry T (.map (some b)) (kv k)).run Tryz.prog w = .ok (.tuple #[(lkK l k).getD z, .int .i64 (i : Int)]) w' ∧ MapK kv w' b (putK l k ((lkK l k).getD z)) ∧ w.grownBy w' (some b) ∧ posK ((putK l k ((lkK l k).getD z)).map (·.1)) k = some i := by
 have hlt := h.lt;obtain ⟨es, h1, h2, h3, h4⟩ := h;have hg := MapKept.run_getObj_map (P := Tryz.prog) h1;have hf := run_findL hK h2 k w;unfold putK;cases hp : posK (l.map (·.1)) k with
 | none =>
  rw [hp] at hf;have hk := posK_none hp;have hlk : lkK l k = none := by unfold lkK; rw [hp]; rfl
  have hes : es.size = l.length := by have := congrArg List.length h2; simpa using this
  rw [hlk];refine ⟨w.putObj b (.map (es.push { key := kv k, val := z, born := es.size }) (es.size + 1)), es.size, ?_, mapK_push z hlt h2 h3 h4 hk, grownBy_putObj' w b _, ?_⟩
  ·unfold Instr.mapEntry;simp [run_underlying hT, hg, hK.check, hf, hz, MapKept.run_setObj_map _ h1, World.putObj, goInt]
  ·dsimp only;rw [List.map_append];refine posK_of (by rw [List.nodup_append]; exact ⟨h4, by simp, fun a ha b hb e => hk (by simp at hb; subst hb; subst e; exact ha)⟩) ?_;rw [List.getElem?_append_right (by simp; omega)]; simp [hes]
 | some i =>
  rw [hp] at hf;have h5 := posK_some hp;rw [List.getElem?_map] at h5;obtain ⟨⟨k', u⟩, hp1, hp2⟩ := Option.map_eq_some_iff.1 h5;dsimp only at hp2; subst hp2;obtain ⟨e, he, hek, hev⟩ := entries_at h2 hp1;have hlk : lkK l k' = some u := by unfold lkK; rw [hp, Option.bind_some, hp1]; rfl
  have hj : es[i]? = some e := by simpa using he
  have hborn := h3 i e he;rw [hlk];have hset : l.set i (k', u) = l := by
   apply List.ext_getElem?;intro q;rw [List.getElem?_set];split
   ·rename_i e; subst e; rw [if_pos (List.getElem?_eq_some_iff.1 hp1).1]; exact hp1.symm
   ·rfl
  refine ⟨w.putObj b (.map (es.modify i fun e => { e with key := kv k' }) es.size), i, ?_, ?_, grownBy_putObj' w b _, ?_⟩
  ·unfold Instr.mapEntry;simp [run_underlying hT, hg, hK.check, hf, hp1, hj, hek, run_staysK hK, MapKept.run_setObj_map _ h1, World.putObj, goInt, hborn]
  ·have hm := mapK_modify (w := w) u hlt h2 h3 h4 hp1 (f := fun x => { x with key := kv k', val := u }) (fun e => ⟨rfl, fun _ => rfl, rfl⟩);have : es.modify i (fun x => { x with key := kv k', val := u }) = es.modify i (fun x => { x with key := kv k' }) := by
    apply Array.ext_getElem?;intro q;rw [Array.getElem?_modify, Array.getElem?_modify];by_cases hq : i = q
    ·subst hq; rw [if_pos rfl, if_pos rfl, hj]; rw [Option.map_some, Option.map_some, show e.val = u from hev]
    ·rw [if_neg hq, if_neg hq]
   rw [this] at hm;exact hm
  ·dsimp only [Option.getD_some];rw [hset]; exact hp
theorem run_entryStoreK [DecidableEq κ] {T : TypeId} (h : MapK kv w b l) {k : κ} {i : Nat} (hi : posK (l.map (·.1)) k = some i) (v : Value) :
  ∃ w', (Instr.entryStore T (.map (some b)) (.int .i64 (i : Int)) v).run Tryz.prog w = .ok () w' ∧ MapK kv w' b (putK l k v) ∧ w.grownBy w' (some b) := by
 have hlt := h.lt;obtain ⟨es, h1, h2, h3, h4⟩ := h;have hg := MapKept.run_getObj_map (P := Tryz.prog) h1;have h5 := posK_some hi;rw [List.getElem?_map] at h5;obtain ⟨⟨k', u⟩, hp1, hp2⟩ := Option.map_eq_some_iff.1 h5;dsimp only at hp2; subst hp2;obtain ⟨e, he, hek, hev⟩ := entries_at h2 hp1;have hl : i < es.size := by have := (List.getElem?_eq_some_iff.1 he).1; simpa using this
 have hfi : es.findIdx? (fun e => (e.born : Int) == (i : Int)) = some i := by
  rw [Array.findIdx?_eq_some_iff_getElem];refine ⟨hl, ?_, fun j hj => ?_⟩
  ·have := h3 i es[i] (by simp [hl]); simp [this]
  ·have := h3 j es[j] (by simp [show j < es.size by omega]); simp [this]; omega
 refine ⟨w.putObj b (.map (es.modify i fun e => { e with val := v }) es.size), ?_, ?_, grownBy_putObj' w b _⟩
 ·unfold Instr.entryStore;simp [hg, asInt, asIntOf, hfi, MapKept.run_setObj_map _ h1, World.putObj]
 ·unfold putK;rw [hi];exact mapK_modify v hlt h2 h3 h4 hp1 (fun e => ⟨rfl, id, rfl⟩)
end
end Go.Proofs.YtkmdakampkfioaaGreatDoor
