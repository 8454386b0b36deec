/- An evaluator for closed calls: one operation. -/
import Derived.Test.YtkmdakampkfioaaGreatDoorEA
import Derived.Lib.MakeNoZero
import Derived.KernelRfl
import Derived.RangeFuncIn
import Derived.RangeFuncLeaves
import Derived.Defers
namespace Go.Proofs.YtkmdakampkfioaaGreatDoor.Ev
open Go Go.RowKit
theorem newMap_new {P : Program} {m : Ab} : NewR P m (do pure (.map (some (← newObj (.map #[] 0))))) mapOf (.map [] 0) :=
  ⟨.map #[] 0, mapOf, fun W => by simp [newObj, Sem.run, mapOf], fun m2 i _ => .map 0 .nil, fun m2 i r h => .map h⟩
def isInt : Value → Bool
  | .int .. => true
  | _ => false
def newA (P : Program) (ρ : Operand → Value) : Op → Option ((Nat → Value) × AO)
  | .alloc t => match zeroE P t with
    | some z => some (ptrOf, .row z.cells.toList t false)
    | none => none
  | .box t x => some (ptrOf, .row (ρ x).cells.toList t false)
  | .buildSlice t n ps => buildSliceE P t n (ps.toList.map fun (i, x) => (i, ρ x))
  | .makeSlice t l c => makeSliceE P t (ρ l) (ρ c)
  | .makeMap _ none => some (mapOf, .map [] 0)
  | .makeMap t (some r) => match P.underlying t with
    | some (.map ..) => bif isInt (ρ r) then some (mapOf, .map [] 0) else none
    | _ => none
  | _ => none
theorem newA_ok {P : Program} {m : Ab} {ρ ρ' : Operand → Value} {o : Oper} {vf : Nat → Value} {ao : AO} (e : newA P ρ o.op = some (vf, ao)) (ho : Ops m ρ ρ' o.op) :
    ∃ s, execOp ρ' o = (do pure (.value (← s))) ∧ NewR P m s vf ao := by
  obtain ⟨dst, op, type, pos, after, guard⟩ := o;simp only at e ho;unfold Ops at ho;cases op <;> simp only [Op.operands] at ho <;> simp only [newA] at e <;> (try (cases e; done)) <;> simp only [execOp]
  case alloc t =>
    split at e
    case h_2 => cases e
    rename_i z hz;simp only [Option.some.injEq, Prod.mk.injEq] at e;obtain ⟨rfl, rfl⟩ := e;exact ⟨_, rfl, alloc_new hz⟩
  case box t x =>
    simp only [Option.some.injEq, Prod.mk.injEq] at e;obtain ⟨rfl, rfl⟩ := e;exact ⟨_, rfl, box_new (ho x (by simp))⟩
  case buildSlice t n ps =>
    refine ⟨_, rfl, buildSliceE_ok e ?_⟩;rw [Array.toList_map];exact pr_map ps.toList fun x hx => ho x (by simpa using hx)
  case makeSlice t l c => exact ⟨_, rfl, makeSliceE_ok e (ho l (by simp)) (ho c (by simp))⟩
  case makeMap t r =>
    cases r with
    | none =>
      simp only [Option.some.injEq, Prod.mk.injEq] at e;obtain ⟨rfl, rfl⟩ := e;refine ⟨_, rfl, ?_⟩;obtain ⟨ob, vf, h1, h2⟩ := newMap_new (P := P) (m := m);exact ⟨ob, vf, fun W => by simpa [Instr.makeMap] using h1 W, h2⟩
    | some r =>
      simp only at e;split at e
      case h_2 => cases e
      rename_i kt et hu;cases hb : isInt (ρ r) with
      | false => rw [hb] at e; cases e
      | true =>
        rw [hb] at e;simp only [cond_true, Option.some.injEq, Prod.mk.injEq] at e;obtain ⟨rfl, rfl⟩ := e;refine ⟨_, rfl, ?_⟩;obtain ⟨ob, vf, h1, h2⟩ := newMap_new (P := P) (m := m);have hr := ho r (by simp);refine ⟨ob, vf, fun W => ?_, h2⟩;have hint : (asInt (ρ' r)).run P W = .ok (match ρ r with | .int _ n => n | _ => 0) W := by
          generalize hq : ρ' r = q at hr;generalize ρ r = p at hr hb;cases hr <;> simp [isInt] at hb
          rfl
        simp only [Instr.makeMap, Option.map_some, Sem.run_bind, rU hu, Result.andThen_ok, hint];simpa using h1 W
def layE (h : Hp) (i : Nat) (ao : AO) : Option Hp :=
  match h.get i with
  | none => bif small64 i then some (h.set (some ao) i) else none
  | some _ => none
theorem layE_some {h h' : Hp} {i : Nat} {ao : AO} (e : layE h i ao = some h') : h.get i = none ∧ i + 1 < 2 ^ 64 ∧ h' = h.set (some ao) i := by
  unfold layE at e;split at e
  case h_2 => cases e
  rename_i hg;cases hs : small64 i with
  | false => rw [hs] at e; cases e
  | true =>
    rw [hs] at e;simp only [cond_true, Option.some.injEq] at e;exact ⟨hg, small64_lt hs, e.symm⟩
theorem new_val {P : Program} {n0 : Nat} {m : Ab} {h h' : Hp} {W : World} (st : Sat P n0 m h W) {s : Sem Value} {vf : Nat → Value} {ao : AO} {i : Nat} (e : layE h i ao = some h') (hn : NewR P m s vf ao) : ValR P n0 m h W s (vf i) h' := by
  obtain ⟨hg, hs, rfl⟩ := layE_some e;obtain ⟨ob, vf', h1, h2, h3⟩ := hn;exact ⟨_, _, vf' W.heap.size, h1 W, h3 _ _ _ (by simp [Ab.add]), St.new st hg hs 0 (h2 _ _ (Ab.le_add (st.fresh hg)))⟩
def pairV : Option (Value × Hp) → Option Out
  | some (v, h) => some (.val v h)
  | none => none
def skipV : Option Hp → Option Out
  | some h => some (.skip h)
  | none => none
def rangeE (P : Program) (h : Hp) (i : Nat) (t : TypeId) (x : Value) : Option (Value × Hp) :=
  match P.underlying t with
  | some (.map _ _) => match x with
    | .map none => match layE h i (.iter none 0 #[] 0) with
      | some h' => some (ptrOf i, h')
      | none => none
    | .map (some r) => match h.get r with
      | some (.map _ ck) => match layE h i (.iter (some r) ck #[] ck) with
        | some h' => some (ptrOf i, h')
        | none => none
      | _ => none
    | _ => none
  | _ => none
theorem rangeE_ok {P : Program} {n0 : Nat} {m : Ab} {h h' : Hp} {W : World} (s : Sat P n0 m h W) {i : Nat} {t : TypeId} {x x' v : Value} (e : rangeE P h i t x = some (v, h')) (hx : VR m x x') : ValR P n0 m h W (Instr.range t x') v h' := by
  unfold rangeE at e;split at e
  case h_2 => cases e
  rename_i kt et hu;split at e
  case h_3 => cases e
  case h_1 =>
    split at e
    case h_2 => cases e
    rename_i h2 hl;simp only [Option.some.injEq, Prod.mk.injEq] at e;obtain ⟨rfl, rfl⟩ := e;cases hx
    refine new_val (vf := ptrOf) s hl ⟨.mapIter none 0 #[] 0, ptrOf, fun W => ?_, fun m2 i _ => .iter0 _ _ _, fun m2 i r h => .ptr h⟩;simp only [Instr.range, Sem.run_bind, rU hu, Result.andThen_ok, Sem.run_pure];simp [newObj, Sem.run, ptrOf]
  case h_2 r =>
    split at e
    case h_2 => cases e
    rename_i es ck hg;split at e
    case h_2 => cases e
    rename_i h2 hl;simp only [Option.some.injEq, Prod.mk.injEq] at e;obtain ⟨rfl, rfl⟩ := e;cases hx with
    | map hr =>
      rename_i r';obtain ⟨es', h3, _⟩ := s.mp hr hg;obtain ⟨hn, hs, rfl⟩ := layE_some hl;refine ⟨_, _, ptrOf W.heap.size, ?_, .ptr (by simp [Ab.add]), St.new (ob := .mapIter (some r') ck #[] ck) s hn hs 0 (.iter (Ab.le_add (s.fresh hn) _ _ hr).1 ck #[] ck)⟩;simp only [Instr.range, Sem.run_bind, rU hu, Result.andThen_ok, Sem.run_pure, rGet h3];simp [newObj, Sem.run, ptrOf]
def nextE (h : Hp) (it : Value) : Option Value :=
  match it with
  | .pointer (some ⟨r, 0, none⟩) => match h.get r with
    | some (.iter none _ _ _) => some (.tuple #[.bool false])
    | some (.iter (some q) _ _ _) => match h.get q with
      | some (.map [] _) => some (.tuple #[.bool false])
      | _ => none
    | _ => none
  | _ => none
theorem nextE_ok {P : Program} {n0 : Nat} {m : Ab} {h : Hp} {W : World} (s : Sat P n0 m h W) {t : TypeId} {x x' v : Value} (e : nextE h x = some v) (hx : VR m x x') : ∃ v', VR m v v' ∧ (Instr.next x' false t).run P W = .ok v' W := by
  unfold nextE at e;split at e
  case h_2 => cases e
  rename_i r;cases hx with
  | ptr hr =>
    rename_i r';split at e
    case h_3 => cases e
    case h_1 a b c hg =>
      simp only [Option.some.injEq] at e;subst e;obtain ⟨ob, h2, h3⟩ := s.has _ _ _ hr hg;cases h3
      refine ⟨.tuple #[.bool false], flat_vr m 4 _ rfl, ?_⟩;simp [Instr.next, getObj, Sem.run, h2]
    case h_2 q a b c hg =>
      split at e
      case h_2 => cases e
      rename_i ck hq;simp only [Option.some.injEq] at e;subst e;obtain ⟨ob, h2, h3⟩ := s.has _ _ _ hr hg;cases h3 with
      | iter hq' =>
        rename_i q';obtain ⟨es', h4, h5⟩ := s.mp hq' hq
        have he : es' = #[] := Array.ext' (by cases hl : es'.toList with
          | nil => rfl
          | cons y l => rw [hl] at h5; cases h5)
        subst he;refine ⟨.tuple #[.bool false], flat_vr m 4 _ rfl, ?_⟩;simp [Instr.next, getObj, Sem.run, h2, h4, choose, Question.forced]
theorem mnz1 : Extern.allNextRows.lookup "internal/bytealg.MakeNoZero" = none := by kernel_rfl
theorem mnz2 : Extern.allNextRows.lookup "" = none := by kernel_rfl
theorem mnz3 : Extern.allGenericRows.lookup "internal/bytealg.MakeNoZero" = none := by kernel_rfl
theorem mnz4 : Extern.allTypedRows.lookup "internal/bytealg.MakeNoZero" = some Extern.BytealgMakeNoZero.makeNoZero := by kernel_rfl
theorem find_mnz {F : Func} (h1 : F.name = "internal/bytealg.MakeNoZero") (h2 : F.origin = "") : Extern.findNext F = none ∧ Extern.find F = some (Extern.BytealgMakeNoZero.makeNoZero F.params F.resultTypes) := by
  constructor
  · simp only [Extern.findNext, h1, h2, mnz1, mnz2]; rfl
  · simp only [Extern.find, h1, mnz3, mnz4]; rfl
theorem digits_int : ∀ (n t : Nat) (acc : Array Value), (∀ k, k < acc.size → ∃ j x, acc.getD k undef = .int j x) → ∀ k, k < (Extern.BytealgMakeNoZero.digits n t acc).size → ∃ j x, (Extern.BytealgMakeNoZero.digits n t acc).getD k undef = .int j x
  | 0, _, _, h => h
  | n + 1, t, acc, h => by
    unfold Extern.BytealgMakeNoZero.digits;refine digits_int n _ _ fun k hk => ?_;simp only [Array.size_push] at hk;by_cases e : k = acc.size
    · subst e;exact ⟨.u8, Int.ofNat (t % 256), by simp [Array.getD]⟩
    · obtain ⟨j, x, hx⟩ := h k (by omega);refine ⟨j, x, ?_⟩;rw [← hx];have h1 : k < acc.size := by omega
      simp [Array.getD, Nat.lt_succ_of_lt h1, Array.getElem_push, h1]
theorem mnz_run {P : Program} (W : World) (ps : Array TypeId) {t e : TypeId} (ht : P.underlying t = some (.slice e)) (n : Nat) (hn : n ≤ 1000000) :
    ∃ cs : Array Value, (Extern.BytealgMakeNoZero.makeNoZero ps #[t] #[.int .i64 n]).run P W = .ok (.slice (some ⟨W.heap.size, 0, none⟩) n cs.size) (W.drew.drew.alloc (.cells cs e)) ∧ n ≤ cs.size ∧ ∀ k, k < cs.size → ∃ j x, cs.getD k undef = .int j x := by
  have h1 : ¬ (n : Int) < 0 := by omega
  have h2 : ¬ (2 ^ 48 : Int) < (n : Int) := by omega
  have h3 : ¬ (281474976710656 : Int) < (n : Int) := by omega
  refine ⟨Extern.BytealgMakeNoZero.digits (grownCap W n 0 e) ((Question.extern "internal/bytealg.MakeNoZero.bytes" 0).cut (W.tape (W.drawn + 1) (.extern "internal/bytealg.MakeNoZero.bytes" 0))) #[], ?_, ?_, digits_int _ _ _ fun k hk => by simp at hk⟩
  · have hdef : Extern.BytealgMakeNoZero.makeNoZero ps #[t] #[.int .i64 n] = (do
        let .slice elem ← underlying t | stuck "bytealg.MakeNoZero: slice type expected"
        if (n : Int) < 0 || (n : Int) > 2 ^ 48 then runtimePanic (.error "makeslice: len out of range")
        let cap ← choose (.appendCap (n : Int).toNat 0 elem)
        askRoom cap
        let bytes ← choose (.extern "internal/bytealg.MakeNoZero.bytes" 0);let a ← newRow elem (Extern.BytealgMakeNoZero.digits cap bytes #[])
        pure (.slice (some a) (n : Int).toNat cap)) := rfl
    rw [hdef];simp [run_underlying ht, h1, h3, Question.forced, newRow, Lib.size_digits, grownCap]
  · rw [Lib.size_digits];simpa using grownCap_ge W n 0 e
def mnzE (P : Program) (h : Hp) (i : Nat) (ρ : Operand → Value) (c : Call) : Option (Value × Hp) :=
  match c.callee with
  | .value f => match ρ f with
    | .func (.func g) ⟨[]⟩ ⟨[]⟩ => match P.funcs[g]? with
      | some F => match F.body, (argsE ρ c).toList with
        | none, [.int .i64 (.ofNat n)] => match F.resultTypes.toList with
          | [t] => match P.underlying t with
            | some (.slice e) => match P.info? e with
              | some inf => bif (F.name == "internal/bytealg.MakeNoZero") && (F.origin == "") && Nat.ble n 1000000 && Nat.beq inf.size 1 then
                  (match layE h i (.row (List.replicate n junk) e true) with
                  | some h' => some (.slice (some ⟨i, 0, none⟩) n big, h')
                  | none => none) else none
              | none => none
            | _ => none
          | _ => none
        | _, _ => none
      | none => none
    | _ => none
  | _ => none
theorem mnzE_ok {P : Program} {n0 : Nat} {m : Ab} {h h' : Hp} {W : World} (s : Sat P n0 m h W) {i : Nat} {ρ ρ' : Operand → Value} {c : Call} {ty : TypeId} {v : Value} (e : mnzE P h i ρ c = some (v, h')) (ho : ∀ x ∈ c.operands, VR m (ρ x) (ρ' x)) :
    OutR P n0 m h W (do let d ← resolve ρ' c ty; invoke d.target d.args) (.val v h') := by
  have ha := argsE_ok ho;unfold mnzE at e;split at e
  case h_2 => cases e
  rename_i f hc;have hf := ho f (by simp [Call.operands, hc]);split at e
  case h_2 => cases e
  rename_i g hg;rw [hg] at hf;split at e
  case h_2 => cases e
  rename_i F hF;split at e
  case h_2 => cases e
  rename_i n hb hargs;split at e
  case h_2 => cases e
  rename_i t ht;split at e
  case h_2 => cases e
  rename_i el hu;split at e
  case h_2 => cases e
  rename_i inf hi;cases hcond : ((F.name == "internal/bytealg.MakeNoZero") && (F.origin == "") && Nat.ble n 1000000 && Nat.beq inf.size 1) with
  | false => rw [hcond] at e; cases e
  | true =>
    rw [hcond] at e;simp only [cond_true] at e;simp only [Bool.and_eq_true, beq_iff_eq] at hcond;obtain ⟨⟨⟨c1, c2⟩, c3⟩, c4⟩ := hcond;have c3 := Nat.le_of_ble_eq_true c3;have c4 := Nat.eq_of_beq_eq_true c4;split at e
    case h_2 => cases e
    rename_i h2 hl;simp only [Option.some.injEq, Prod.mk.injEq] at e;obtain ⟨rfl, rfl⟩ := e;obtain ⟨hn, hs, rfl⟩ := layE_some hl;obtain ⟨cs, r1, r2, r3⟩ := mnz_run W F.params hu n c3;generalize hq : ρ' f = q at hf;cases hf with
    | func _ h1 h2 h3 h4 =>
      rename_i first' captured';have e1 : first' = #[] := Array.eq_empty_of_size_eq_zero (by simpa using h1.symm);have e2 : captured' = #[] := Array.eq_empty_of_size_eq_zero (by simpa using h3.symm);subst e1 e2;have e3 : c.args.map ρ' = #[.int .i64 n] := by
        have hl := ha.list;rw [hargs] at hl;obtain ⟨x', g1, g2⟩ := hl.get (i := 0) (v := .int .i64 n) rfl;cases g2
        apply Array.ext';apply List.ext_getElem?;intro k
        match k with
        | 0 => simpa using g1
        | k + 1 => rw [List.getElem?_eq_none (by rw [← hl.1]; simp), List.getElem?_eq_none (by simp)]
      have e4 : F.resultTypes = #[t] := Array.ext' ht;obtain ⟨f1, f2⟩ := find_mnz c1 c2;have e5 : (F.name == "runtime.NumGoroutine") = false := by rw [c1]; rfl
      refine ⟨_, _, .slice (some ⟨W.heap.size, 0, none⟩) n cs.size, ?_, .sl (by simp [Ab.add]) (by simp [Ab.add, capAt, big]; rfl) r2, (St.drew s).trans ((St.drew s.drew).trans (St.new (ob := .cells cs el) s.drew.drew hn hs cs.size (.opn el hi (by simp [Ab.add, c4]) (by simpa using r2) fun k hk => ?_)))⟩
      · have hcall : (callFunc g #[.int .i64 n]).run P W = .ok (.value (.slice (some ⟨W.heap.size, 0, none⟩) n cs.size)) (W.drew.drew.alloc (.cells cs el)) := by
          simp only [callFunc, Sem.run_bind, run_program, Result.andThen_ok, hF, e5, hb, Option.isNone_none, if_true, f1, f2];simp [e4, r1]
        simp only [resolve, hc, Sem.run_bind, Sem.run_pure, Result.andThen_ok, Deferred.ofValue, hq, invoke, e3];rw [show (#[] ++ #[Value.int .i64 ↑n] ++ #[] : Array Value) = #[.int .i64 n] from by simp];exact hcall
      · simp only [List.length_replicate] at hk;obtain ⟨j, x, hx⟩ := r3 k (by omega);rw [hx];have : (List.replicate n junk).getD k undef = junk := by simp [List.getD_eq_getElem?_getD, hk]
        rw [this];exact .any _ _
def doE (P : Program) (h : Hp) (i : Nat) (ρ : Operand → Value) : Op → Option Out
  | .store t a x => skipV (storeE P h t (ρ a) (ρ x))
  | .mapUpdate t x k v | .insert t x k v => skipV (updE P h t (ρ x) (ρ k) (ρ v))
  | .mapEntry t x k => pairV (entE P h t (ρ x) (ρ k))
  | .entryStore _ x k v => skipV (estoreE h (ρ x) (ρ k) (ρ v))
  | .range t x => pairV (rangeE P h i t (ρ x))
  | .next x false => match nextE h (ρ x) with
    | some v => some (.val v h)
    | none => none
  | .call c => match mnzE P h i ρ c with
    | some (v, h') => some (.val v h')
    | none => callE P h i ρ c
  | .defer c => match c.callee, ρ (match c.callee with | .value f => f | _ => .const undef) with
    | .value _, .func (.func g) first captured => some (.defer { target := .fn (.func g) captured, args := ⟨first.toList ++ (argsE ρ c).toList⟩ })
    | _, _ => none
  | _ => none
theorem val_next {P : Program} {n0 : Nat} {m : Ab} {h h' : Hp} {W : World} {s : Sem Value} {v : Value} (e : ValR P n0 m h W s v h') : OutR P n0 m h W (do pure (.value (← s))) (.val v h') := by
  obtain ⟨m', W', v', e1, e2, e3⟩ := e;exact ⟨m', W', v', by simp [e1], e2, e3⟩
theorem unit_next {P : Program} {n0 : Nat} {m : Ab} {h h' : Hp} {W : World} {s : Sem Unit} (e : UnitR P n0 m h W s h') : OutR P n0 m h W (do s; pure .skip) (.skip h') := by
  obtain ⟨m', W', e1, e3⟩ := e;exact ⟨m', W', by simp [e1], e3⟩
theorem pairV_some {o : Option (Value × Hp)} {out : Out} (e : pairV o = some out) : ∃ v h, o = some (v, h) ∧ out = .val v h := by
  cases o with
  | none => cases e
  | some q => obtain ⟨v, h⟩ := q; simp only [pairV, Option.some.injEq] at e; exact ⟨v, h, rfl, e.symm⟩
theorem skipV_some {o : Option Hp} {out : Out} (e : skipV o = some out) : ∃ h, o = some h ∧ out = .skip h := by
  cases o with
  | none => cases e
  | some h => simp only [skipV, Option.some.injEq] at e; exact ⟨h, rfl, e.symm⟩
theorem doE_ok {P : Program} (hP : named P) {n0 : Nat} {m : Ab} {h : Hp} {W : World} (s : Sat P n0 m h W) {i : Nat} {ρ ρ' : Operand → Value} {o : Oper} {out : Out} (e : doE P h i ρ o.op = some out) (ho : Ops m ρ ρ' o.op) :
    OutR P n0 m h W (execOp ρ' o) out := by
  obtain ⟨dst, op, type, pos, after, guard⟩ := o;simp only at e ho;unfold Ops at ho;cases op <;> simp only [Op.operands] at ho <;> simp only [doE] at e <;> (try (cases e; done)) <;> simp only [execOp]
  case store t a x =>
    obtain ⟨h', e1, rfl⟩ := skipV_some e;obtain ⟨W', a1, a2⟩ := storeE_ok s e1 (ho a (by simp)) (ho x (by simp));exact unit_next ⟨m, W', a1, a2⟩
  case mapUpdate t x k v =>
    obtain ⟨h', e1, rfl⟩ := skipV_some e;exact unit_next (updE_ok s e1 (ho x (by simp)) (ho k (by simp)) (ho v (by simp)))
  case insert t x k v =>
    obtain ⟨h', e1, rfl⟩ := skipV_some e;exact unit_next (updE_ok s e1 (ho x (by simp)) (ho k (by simp)) (ho v (by simp)))
  case mapEntry t x k =>
    obtain ⟨v, h', e1, rfl⟩ := pairV_some e;exact val_next (entE_ok s e1 (ho x (by simp)) (ho k (by simp)))
  case entryStore t x k v =>
    obtain ⟨h', e1, rfl⟩ := skipV_some e;exact unit_next (estoreE_ok s e1 (ho x (by simp)) (ho k (by simp)) (ho v (by simp)))
  case range t x =>
    obtain ⟨v, h', e1, rfl⟩ := pairV_some e;exact val_next (rangeE_ok s e1 (ho x (by simp)))
  case next x b =>
    cases b with
    | true => cases e
    | false =>
      simp only at e;split at e
      case h_2 => cases e
      rename_i v hv;simp only [Option.some.injEq] at e;subst e;obtain ⟨v', h1, h2⟩ := nextE_ok (t := type) s hv (ho x (by simp));exact val_next ⟨m, W, v', h2, h1, St.refl s⟩
  case call c =>
    split at e
    case h_1 v h' hm =>
      simp only [Option.some.injEq] at e;subst e;exact mnzE_ok s hm ho
    case h_2 => exact callE_ok hP s e ho
  case defer c =>
    have ha := argsE_ok ho;split at e
    case h_2 => cases e
    rename_i f g first captured hc hf;simp only [hc] at hf;simp only [Option.some.injEq] at e;subst e;have hfr := ho f (by simp [Call.operands, hc]);rw [hf] at hfr;generalize hq : ρ' f = q at hfr;cases hfr with
    | func _ h1 h2 h3 h4 =>
      rename_i first' captured';refine ⟨{ target := .fn (.func g) captured', args := first' ++ c.args.map ρ' }, ?_, ⟨.fn g ⟨h3, h4⟩, VL.arr ?_⟩⟩
      · simp only [resolve, hc, Deferred.ofValue, hq, Sem.run_bind, Sem.run_pure, Result.andThen_ok]
      · have h12 : VRs m first first' := ⟨h1, h2⟩;simp only [Array.toList_append];exact h12.list.append ha.list
def opE (P : Program) (h : Hp) (i : Nat) (ρ : Operand → Value) (o : Oper) : Option Out :=
  match stillE P h ρ o with
  | some v => some (.val v h)
  | none => match newA P ρ o.op with
    | some (vf, ao) => match layE h i ao with
      | some h' => some (.val (vf i) h')
      | none => none
    | none => doE P h i ρ o.op
theorem opE_ok {P : Program} (hP : named P) {n0 : Nat} {m : Ab} {h : Hp} {W : World} (s : Sat P n0 m h W) {i : Nat} {ρ ρ' : Operand → Value} {o : Oper} {out : Out} (e : opE P h i ρ o = some out) (ho : Ops m ρ ρ' o.op) :
    OutR P n0 m h W (execOp ρ' o) out := by
  unfold opE at e;split at e
  case h_1 v hv =>
    simp only [Option.some.injEq] at e;subst e;obtain ⟨v', h1, h2⟩ := stillE_ok s hv ho;exact ⟨m, W, v', h2, h1, St.refl s⟩
  case h_2 =>
    split at e
    case h_1 vf ao hn =>
      split at e
      case h_2 => cases e
      rename_i h' hl;simp only [Option.some.injEq] at e;subst e;obtain ⟨q, hq, hr⟩ := newA_ok hn ho;rw [hq];exact val_next (new_val s hl hr)
    case h_2 => exact doE_ok hP s e ho
structure AF where
  f : FuncId
  n : Nat
  rd : Option Nat
  df : Bool
  back : Bool
  T : Tr Value
  ds : List Deferred
  td : List Item
def valAt (T : Tr Value) (t : Nat) : Value := match T.get t with | some v => v | none => undef
def evalA (T : Tr Value) : Operand → Value
  | .tmp t => valAt T t
  | .const v => v
  | .global _ => undef
  | .func f => .func (.func f) #[] #[]
def okO : Operand → Bool
  | .tmp _ => true
  | .const v => flat 4 v
  | .global _ => false
  | .func _ => true
def okOp (o : Op) : Bool := o.operands.toList.all okO
def okDst (n : Nat) : Option Tmp → Bool
  | none => true
  | some d => Nat.ble (d + 1) n && Nat.ble n 1000000
def putT (T : Tr Value) (dst : Option Tmp) (v : Value) : Tr Value :=
  match dst with
  | none => T
  | some d => T.set (some v) d
def yieldedA (ops : Array Oper) (T : Tr Value) (j : Nat) : Option Bool :=
  match (ops[j]?).bind (·.dst) with
  | some t => match T.get t with
    | some (.bool b) => some b
    | _ => none
  | none => none
def wantedA (ops : Array Oper) (T : Tr Value) (o : Oper) : Bool :=
  match o.guard with
  | none => true
  | some (j, want) => match yieldedA ops T j with
    | some b => bif want then b else !b
    | none => false
def noDef (rd : Option Nat) (o : Op) : Bool :=
  match rd, o with
  | some _, .defer _ => false
  | _, _ => true
def trOf : Nat → List Value → Tr Value → Tr Value
  | _, [], T => T
  | i, v :: l, T => trOf (i + 1) l (T.set (some v) i)
def rowOf (T : Tr Value) : Nat → List Value → List Value
  | 0, l => l
  | n + 1, l => rowOf T n (valAt T n :: l)
structure Memo (P : Program) where
  fn : FuncId → List Value → Hp → Nat → Option (Value × Hp × Nat)
  ok : ∀ {f : FuncId} {args : List Value} {h : Hp} {c : Nat} {v : Value} {h' : Hp} {c' : Nat}, fn f args h c = some (v, h', c') → ∀ {n0 : Nat} {m : Ab} {W : World}, Sat P n0 m h W → ∀ {args' : Array Value}, VL m args args'.toList →
    Calls P f args' W fun en W' => ∃ v' m', en = .returned v' ∧ VR m' v v' ∧ St P n0 m m' h h' W W'
def Memo.none (P : Program) : Memo P := ⟨fun _ _ _ _ => Option.none, fun e => by cases e⟩
abbrev Runner := AF → Hp → Nat → Option (Value × Hp × Nat)
def enterA (f : FuncId) (F : Func) (args : List Value) (df : Bool) : Option AF :=
  match F.body with
  | some b => bif Nat.ble args.length F.ntmps && Nat.ble F.ntmps 1000000 then some ⟨f, F.ntmps, none, df, false, trOf 0 args .e, [], [.code b]⟩ else none
  | none => none
def outA (P : Program) (O : Memo P) (call : Runner) (rd : Option Nat) (df : Bool) (ds : List Deferred) (h : Hp) (c : Nat) : Out → Option (Value × List Deferred × Hp × Nat)
  | .val v h => some (v, ds, h, c + 1)
  | .skip h => some (undef, ds, h, c + 1)
  | .enter f args => match O.fn f args.toList h c with
    | some (v, h', c') => some (v, ds, h', c')
    | none => match fnE P f with
      | some F => match enterA f F args.toList false with
        | some y => match call y h c with
          | some (v, h', c') => some (v, ds, h', c')
          | none => none
        | none => none
      | none => none
  | .rnd l fn tmps assign body => bif Nat.ble tmps.toList.length 1000000 then (match call ⟨fn, tmps.toList.length, some l, false, false, trOf 0 tmps.toList .e, [], [.code assign, .beginRound, .code body]⟩ h c with
      | some (v, h', c') => some (v, ds, h', c')
      | none => none) else none
  | .defer d => match rd with
    | none => some (undef, d :: ds, h, c)
    | some _ => none
  | .recover => match df, rd with
    | true, none => some (.nilIface, ds, h, c)
    | _, _ => none
def all2 (f : Value → Value → Bool) : List Value → List Value → Bool
  | [], [] => true
  | a :: l, b :: k => f a b && all2 f l k
  | _, _ => false
def aeq (a b : Addr) : Bool := Nat.beq a.block b.block && Nat.beq a.off b.off && (match a.spot, b.spot with | none, none => true | _, _ => false)
def oeq : Option Addr → Option Addr → Bool
  | none, none => true
  | some a, some b => aeq a b
  | _, _ => false
def veq : Nat → Value → Value → Bool
  | _, .bool a, .bool b => bif a then b else !b
  | _, .int j a, .int k b => decide (j = k) && decide (a = b)
  | _, .string a, .string b => a == b
  | _, .pointer a, .pointer b => oeq a b
  | _, .slice a l c, .slice b l' c' => oeq a b && Nat.beq l l' && Nat.beq c c'
  | _, .map none, .map none | _, .nilFunc, .nilFunc | _, .nilIface, .nilIface => true
  | _, .map (some a), .map (some b) => Nat.beq a b
  | d + 1, .func (.func f) fs cs, .func (.func g) fs' cs' => Nat.beq f g && all2 (veq d) fs.toList fs'.toList && all2 (veq d) cs.toList cs'.toList
  | d + 1, .iface t v, .iface u w => Nat.beq t u && veq d v w
  | d + 1, .agg a, .agg b => all2 (veq d) a.toList b.toList
  | d + 1, .tuple a, .tuple b => all2 (veq d) a.toList b.toList
  | _, _, _ => false
def depsA (C : Tr Nat) : List Edge → Nat
  | [] => 0
  | e :: l => bif Region.binds .any e then Nat.lor (Nat.lor (Nat.shiftLeft 1 e.on) (match C.get e.on with | some d => d | none => 0)) (depsA C l) else depsA C l
abbrev Rem := List (Nat × Nat × Oper)
def remA (C : Tr Nat) : Nat → List Oper → Rem
  | _, [] => []
  | i, o :: l => (i, depsA C o.after.toList, o) :: remA (C.set (some (depsA C o.after.toList)) i) (i + 1) l
def dstA (n : Nat) : Rem → Option (Tr Nat)
  | [] => some .e
  | (i, _, o) :: l => match dstA n l with
    | none => none
    | some D => match o.dst with
      | none => some D
      | some d => bif okDst n (some d) then (match D.get d with
        | none => some (D.set (some i) d)
        | some _ => none) else none
def hazL (D : Tr Nat) (d : Nat) : List Operand → Tr Nat → Tr Nat
  | [], H => H
  | .tmp t :: l, H => match D.get t with
    | some q => bif Nat.testBit d q then hazL D d l H else (bif Nat.ble (t + 1) 1000000 then (hazL D d l H).set (some q) t else hazL D d l H)
    | none => hazL D d l H
  | _ :: l, H => hazL D d l H
def hazR (D : Tr Nat) : Rem → Tr Nat
  | [] => .e
  | (_, d, o) :: l => hazL D d o.op.operands.toList (hazR D l)
def evalW (H : Tr Nat) (T0 : Tr Value) (d : Nat) (T : Tr Value) : Operand → Value
  | .tmp t => match H.get t with
    | none => valAt T t
    | some q => bif Nat.testBit d q then valAt T t else valAt T0 t
  | x => evalA T x
def waitsA (q i : Nat) : Rem → Bool
  | [] => false
  | (j, d, _) :: l => (Nat.beq j q && Nat.testBit d i) || waitsA q i l
def looksA (D H : Tr Nat) (R : Rem) (i d : Nat) : List Operand → Bool
  | [] => true
  | .tmp t :: l => (match D.get t with
    | none => true
    | some q => Nat.testBit d q || ((match H.get t with
      | some q' => Nat.beq q' q
      | none => false) && waitsA q i R)) && looksA D H R i d l
  | _ :: l => looksA D H R i d l
def ltA (i : Nat) : List Edge → Bool
  | [] => true
  | e :: l => (!(Region.binds .any e) || Nat.ble (e.on + 1) i) && ltA i l
def guardA (d : Nat) : Option (Nat × Bool) → Bool
  | none => true
  | some (j, _) => Nat.testBit d j
def regA (D H : Tr Nat) (R : Rem) : Rem → Bool
  | [] => true
  | (i, d, o) :: l => looksA D H R i d o.op.operands.toList && guardA d o.guard && ltA i o.after.toList && !(Nat.testBit d i) && notSel o.op && okOp o.op && (match o.op with | .defer _ => false | _ => true) && regA D H R l
inductive Kd where
  | skip
  | pure
  | mem
  | new
inductive Tk where
  | val (v : Value) (kd : Kd)
  | new (vf : Nat → Value) (ao : AO)
def pureE (P : Program) (ρ : Operand → Value) (o : Oper) : Option Value :=
  match sop P ρ o.op with
  | some v => some v
  | none => bif notSel o.op && o.op.operands.toList.all (fun x => flat 4 (ρ x)) then (match pureRun P (execOp ρ o) with
    | some (.value v) => bif flat 4 v then some v else none
    | _ => none) else none
def takeE (P : Program) (h : Hp) (ops : Array Oper) (T : Tr Value) (ρ : Operand → Value) (o : Oper) : Option Tk :=
  match wantedA ops T o with
  | false => some (.val undef .skip)
  | true => match still1 P h ρ o.op with
    | some v => some (.val v .mem)
    | none => match newA P ρ o.op with
      | some (vf, ao) => some (.new vf ao)
      | none => match pureE P ρ o with
        | some v => some (.val v .pure)
        | none => none
def pickA (P : Program) (h : Hp) (c : Nat) (ops : Array Oper) (H : Tr Nat) (T0 T : Tr Value) (L : Nat) : Rem → Option ((Nat × Nat × Oper) × Value × Kd × Hp × Rem)
  | [] => none
  | (i, d, o) :: r => match (bif Nat.beq (Nat.land d L) d then takeE P h ops T (evalW H T0 d T) o else none) with
    | some (.val v kd) => some ((i, d, o), v, kd, h, r)
    | some (.new vf ao) => match layE h c ao with
      | some h' => some ((i, d, o), vf c, .new, h', r)
      | none => none
    | none => match pickA P h c ops H T0 T L r with
      | some (x, v, kd, h', r') => some (x, v, kd, h', (i, d, o) :: r')
      | none => none
def noneReady (L : Nat) : Rem → Bool
  | [] => true
  | (_, d, _) :: r => !(Nat.beq (Nat.land d L) d) && noneReady L r
def soleA (L : Nat) : Rem → Option ((Nat × Nat × Oper) × Rem)
  | [] => none
  | (i, d, o) :: r => bif Nat.beq (Nat.land d L) d then (bif noneReady L r then some ((i, d, o), r) else none) else
      (match soleA L r with
      | some (x, r') => some (x, (i, d, o) :: r')
      | none => none)
abbrev Pend := List ((Nat × Nat × Oper) × Value)
def againA (P : Program) (h : Hp) (H : Tr Nat) (T0 T : Tr Value) : Pend → Bool
  | [] => true
  | ((_, d, o), v) :: l => (match still1 P h (evalW H T0 d T) o.op with
    | some w => veq 6 w v
    | none => false) && againA P h H T0 T l
def pruneA (d : Nat) : Pend → Pend
  | [] => []
  | ((i, d', o), v) :: l => bif Nat.testBit d i then pruneA d l else ((i, d', o), v) :: pruneA d l
def explore (P : Program) (O : Memo P) (call : Runner) (rd : Option Nat) (df : Bool) (ops : Array Oper) (H : Tr Nat) (T0 : Tr Value) : Nat → Nat → Pend → Rem → Tr Value → List Deferred → Hp → Nat → Option (Tr Value × List Deferred × Hp × Nat)
  | 0, _, _, _, _, _, _, _ => none
  | k + 1, L, pend, rem, T, ds, h, c => match pickA P h c ops H T0 T L rem with
    | some ((i, d, o), v, kd, h', r) => match kd with
      | .mem => explore P O call rd df ops H T0 k (Nat.lor L (Nat.shiftLeft 1 i)) (((i, d, o), v) :: pend) r (putT T o.dst v) ds h' (c + 1)
      | .new => bif againA P h' H T0 (putT T o.dst v) pend then explore P O call rd df ops H T0 k (Nat.lor L (Nat.shiftLeft 1 i)) pend r (putT T o.dst v) ds h' (c + 1) else none
      | _ => explore P O call rd df ops H T0 k (Nat.lor L (Nat.shiftLeft 1 i)) pend r (putT T o.dst v) ds h' (c + 1)
    | none => match rem with
      | [] => some (T, ds, h, c)
      | _ => match soleA L rem with
        | none => none
        | some ((i, d, o), r) => match bif wantedA ops T o then opE P h c (evalW H T0 d T) o else none with
          | none => none
          | some out => match outA P O call rd df ds h c out with
            | none => none
            | some (v, ds', h', c') => bif againA P h' H T0 (putT T o.dst v) (pruneA d pend) then explore P O call rd df ops H T0 k (Nat.lor L (Nat.shiftLeft 1 i)) (pruneA d pend) r (putT T o.dst v) ds' h' c' else none
def regionB (P : Program) (O : Memo P) (call : Runner) (rd : Option Nat) (df : Bool) (ops : Array Oper) (D : Tr Nat) (R : Rem) (H : Tr Nat) (T : Tr Value) (ds : List Deferred) (h : Hp) (c : Nat) : Option (Tr Value × List Deferred × Hp × Nat) :=
  bif regA D H R R && Nat.ble ops.toList.length 1000000 then explore P O call rd df ops H T (ops.toList.length + 1) 0 [] R T ds h c else none
def regionA (P : Program) (O : Memo P) (call : Runner) (n : Nat) (rd : Option Nat) (df : Bool) (ops : Array Oper) (T : Tr Value) (ds : List Deferred) (h : Hp) (c : Nat) : Option (Tr Value × List Deferred × Hp × Nat) :=
  match dstA n (remA .e 0 ops.toList) with
  | none => none
  | some D => regionB P O call rd df ops D (remA .e 0 ops.toList) (hazR D (remA .e 0 ops.toList)) T ds h c
def getLoopA (h : Hp) (l : Nat) : Option Loop :=
  match h.get l with
  | some (.loop r) => some r
  | _ => none
def setLoopA (h : Hp) (l : Nat) (r : Loop) : Option Hp := bif small64 l then some (h.set (some (.loop r)) l) else none
def stOf : Option Code → LoopState
  | none => .ready
  | some _ => .done
def endRoundA (h : Hp) (l : Nat) (jump : Option Code) : Option Hp :=
  match getLoopA h l with
  | some r => setLoopA h l { r with state := stOf jump, pending := jump }
  | none => none
def valsE (T : Tr Value) (P : Program) (h : Hp) : List ResultVar → Option (List Value)
  | [] => some []
  | .tmp t :: l => match valsE T P h l with
    | some r => some (valAt T t :: r)
    | none => none
  | .cell a t :: l => match loadE P h t (valAt T a), valsE T P h l with
    | some v, some r => some (v :: r)
    | _, _ => none
def resE (P : Program) (h : Hp) (f : FuncId) (T : Tr Value) : Option Value :=
  match P.funcs[f]? with
  | none => none
  | some F => match valsE T P h F.results.toList with
    | some [v] => some v
    | some l => some (.tuple ⟨l⟩)
    | none => none
def run (P : Program) (O : Memo P) : Nat → AF → Hp → Nat → Option (Value × Hp × Nat)
  | 0, _, _, _ => none
  | k + 1, ⟨f, n, rd, df, true, T, ds, td⟩, h, c => match ds with
    | [] => match rd with
      | none => match resE P h f T with
        | some v => some (v, h, c)
        | none => none
      | some _ => none
    | d :: ds => match d.target with
      | .collected r => match h.get r with
        | some (.defd (some calls)) => bif small64 r then run P O k ⟨f, n, rd, df, true, T, calls ++ ds, td⟩ (h.set (some (.defd none)) r) c else none
        | _ => none
      | .fn (.func g) cap => match fnE P g with
        | some F => match enterA g F (d.args.toList ++ cap.toList) true with
          | some y => match run P O k y h c with
            | some (_, h', c') => run P O k ⟨f, n, rd, df, true, T, ds, td⟩ h' c'
            | none => none
          | none => none
        | none => none
      | _ => none
  | k + 1, ⟨f, n, rd, df, false, T, ds, td⟩, h, c => match td with
    | [] => match rd with
      | none => run P O k ⟨f, n, rd, df, true, T, ds, []⟩ h c
      | some l => match df, ds, endRoundA h l none with
        | false, [], some h' => some (.bool true, h', c)
        | _, _, _ => none
    | .code cd :: td => match cd with
      | .skip | .label _ => run P O k ⟨f, n, rd, df, false, T, ds, td⟩ h c
      | .seq a b => run P O k ⟨f, n, rd, df, false, T, ds, .code a :: .code b :: td⟩ h c
      | .cond x a b => match okO x, evalA T x with
        | true, .bool t => run P O k ⟨f, n, rd, df, false, T, ds, .code (bif t then a else b) :: td⟩ h c
        | _, _ => none
      | .block id b => run P O k ⟨f, n, rd, df, false, T, ds, .code b :: .inBlock id :: td⟩ h c
      | .loop b => run P O k ⟨f, n, rd, df, false, T, ds, .code b :: .inLoop b :: td⟩ h c
      | .scope b => run P O k ⟨f, n, rd, df, false, T, ds, .code b :: .inScope b :: td⟩ h c
      | .exit id => match exitTo id td with
        | some td' => run P O k ⟨f, n, rd, df, false, T, ds, td'⟩ h c
        | none => match rd with
          | none => none
          | some l => match df, ds, endRoundA h l (some (.exit id)) with
            | false, [], some h' => some (.bool false, h', c)
            | _, _, _ => none
      | .goto l => match gotoIn l td with
        | some td' => run P O k ⟨f, n, rd, df, false, T, ds, td'⟩ h c
        | none => none
      | .ret => match rd with
        | none => run P O k ⟨f, n, rd, df, true, T, ds, .code .ret :: td⟩ h c
        | some l => match df, ds, endRoundA h l (some .ret) with
          | false, [], some h' => some (.bool false, h', c)
          | _, _, _ => none
      | .region _ ops false => run P O k ⟨f, n, rd, df, false, T, ds, .inRegion ops (List.range ops.size) :: td⟩ h c
      | .region _ ops true => match regionA P O (run P O k) n rd df ops T ds h c with
        | some (T', ds', h', c') => run P O k ⟨f, n, rd, df, false, T', ds', td⟩ h' c'
        | none => none
      | .rangeFunc fo params assign body => match okO fo, rd with
        | true, none => match layE h c (.defd (some [])) with
          | some h1 => match layE h1 (c + 1) (.loop { state := .ready, pending := none, fn := f, tmps := ⟨rowOf T n []⟩, params, assign, body, defers := c }) with
            | some h2 => match enterE P h2 (evalA T fo) #[.func (.yield (c + 1)) #[] #[]] with
              | some (.enter g args) => match outA P O (run P O k) rd df ds h2 (c + 2) (.enter g args) with
                | some (_, _, h3, c3) => run P O k ⟨f, n, rd, df, false, T, { target := .collected c, args := #[] } :: ds, .endRangeFunc (c + 1) :: td⟩ h3 c3
                | none => none
              | _ => none
            | none => none
          | none => none
        | true, some l => match getLoopA h l with
          | some r => match layE h c (.loop { state := .ready, pending := none, fn := f, tmps := ⟨rowOf T n []⟩, params, assign, body, defers := r.defers }) with
            | some h2 => match enterE P h2 (evalA T fo) #[.func (.yield c) #[] #[]] with
              | some (.enter g args) => match outA P O (run P O k) rd df ds h2 (c + 1) (.enter g args) with
                | some (_, _, h3, c3) => run P O k ⟨f, n, rd, df, false, T, ds, .endRangeFunc c :: td⟩ h3 c3
                | none => none
              | _ => none
            | none => none
          | none => none
        | false, _ => none
      | .refuse _ => none
    | .inBlock _ :: td | .inScope _ :: td => run P O k ⟨f, n, rd, df, false, T, ds, td⟩ h c
    | .inLoop b :: td => run P O k ⟨f, n, rd, df, false, T, ds, .code b :: .inLoop b :: td⟩ h c
    | .inRegion _ [] :: td => run P O k ⟨f, n, rd, df, false, T, ds, td⟩ h c
    | .inRegion ops (i :: r) :: td => match ops[i]? with
      | none => none
      | some o => bif okDst n o.dst then (match wantedA ops T o with
        | false => run P O k ⟨f, n, rd, df, false, putT T o.dst undef, ds, .inRegion ops r :: td⟩ h c
        | true => bif okOp o.op && noDef rd o.op then (match opE P h c (evalA T) o with
          | none => none
          | some out => match outA P O (run P O k) rd df ds h c out with
            | none => none
            | some (v, ds', h', c') => run P O k ⟨f, n, rd, df, false, putT T o.dst v, ds', .inRegion ops r :: td⟩ h' c') else none) else none
    | .beginRound :: td => match rd with
      | none => none
      | some l => match getLoopA h l with
        | none => none
        | some r => match r.state with
          | .ready => match setLoopA h l { r with state := .busy } with
            | some h' => run P O k ⟨f, n, rd, df, false, T, ds, td⟩ h' c
            | none => none
          | _ => none
    | .endRangeFunc l :: td => match getLoopA h l with
      | none => none
      | some r => match r.state with
        | .busy => none
        | _ => match setLoopA h l { r with state := .exhausted } with
          | some h' => run P O k ⟨f, n, rd, df, false, T, ds, match r.pending with | none => td | some cd => .code cd :: td⟩ h' c
          | none => none
    | .inRangeFunc _ :: _ | .call .. :: _ | .extern .. :: _ => none
def callA (P : Program) (O : Memo P) (k : Nat) (f : FuncId) (args : List Value) (h : Hp) (c : Nat) : Option (Value × Hp × Nat) :=
  match fnE P f with
  | some F => match enterA f F args false with
    | some y => run P O k y h c
    | none => none
  | none => none
def TmX (m : Ab) (n : Nat) (X : Nat → Prop) (T : Tr Value) (a : Array Value) : Prop := a.size = n ∧ ∀ t, ¬ X t → VR m (valAt T t) (a.getD t undef)
def TmR (m : Ab) (n : Nat) (T : Tr Value) (a : Array Value) : Prop := TmX m n (fun _ => False) T a
inductive IR (m : Ab) : Item → Item → Prop
  | code (c : Code) : IR m (.code c) (.code c)
  | inBlock (i : Nat) : IR m (.inBlock i) (.inBlock i)
  | inLoop (c : Code) : IR m (.inLoop c) (.inLoop c)
  | inScope (c : Code) : IR m (.inScope c) (.inScope c)
  | inRegion (ops : Array Oper) (l : List Nat) : IR m (.inRegion ops l) (.inRegion ops l)
  | beginRound : IR m .beginRound .beginRound
  | endRangeFunc {l l' : Nat} (h : m.b l = some l') : IR m (.endRangeFunc l) (.endRangeFunc l')
inductive IL (m : Ab) : List Item → List Item → Prop
  | nil : IL m [] []
  | cons {i i' : Item} {l l' : List Item} (h : IR m i i') (k : IL m l l') : IL m (i :: l) (i' :: l')
theorem IR.mono {m n : Ab} (hl : m.le n) {i i' : Item} (h : IR m i i') : IR n i i' := by
  cases h with
  | endRangeFunc h => exact .endRangeFunc (hl _ _ h).1
  | code c => exact .code c
  | inBlock i => exact .inBlock i
  | inLoop c => exact .inLoop c
  | inScope c => exact .inScope c
  | inRegion o l => exact .inRegion o l
  | beginRound => exact .beginRound
theorem IL.mono {m n : Ab} (hl : m.le n) {i i' : List Item} (h : IL m i i') : IL n i i' := by
  induction h with
  | nil => exact .nil
  | cons h _ ih => exact .cons (h.mono hl) ih
theorem TmX.mono {m n : Ab} (hl : m.le n) {k : Nat} {X : Nat → Prop} {T : Tr Value} {a : Array Value} (h : TmX m k X T a) : TmX n k X T a := ⟨h.1, fun t ht => (h.2 t ht).mono hl⟩
theorem TmR.mono {m n : Ab} (hl : m.le n) {k : Nat} {T : Tr Value} {a : Array Value} (h : TmR m k T a) : TmR n k T a := TmX.mono hl h
theorem exitTo_rel {m : Ab} {id : Nat} {k k' : List Item} (h : IL m k k') : (∀ r, exitTo id k = some r → ∃ r', exitTo id k' = some r' ∧ IL m r r') ∧ (exitTo id k = none → exitTo id k' = none) := by
  induction h with
  | nil => exact ⟨fun r e => (by cases e), fun _ => rfl⟩
  | cons h hk ih =>
    cases h with
    | inBlock i =>
      simp only [exitTo];by_cases e : (i == id) = true
      · simp only [e, if_true];exact ⟨fun r q => by simp only [Option.some.injEq] at q; subst q; exact ⟨_, rfl, hk⟩, fun q => by cases q⟩
      · simp only [e, Bool.false_eq_true, if_false];exact ih
    | _ => simpa only [exitTo] using ih
theorem gotoIn_rel {m : Ab} {l : Nat} {k k' : List Item} (h : IL m k k') : ∀ r, gotoIn l k = some r → ∃ r', gotoIn l k' = some r' ∧ IL m r r' := by
  induction h with
  | nil => intro r e; cases e
  | cons h hk ih =>
    cases h with
    | inScope c =>
      intro r e;simp only [gotoIn] at e ⊢;cases hf : findLabel c l with
      | none => simp only [hf] at e ⊢; exact ih r e
      | some rest =>
        simp only [hf, Option.some.injEq] at e ⊢;subst e;exact ⟨_, rfl, .cons (.code rest) (.cons (.inScope c) hk)⟩
    | _ => simpa only [gotoIn] using ih
def RdR (m : Ab) : Option Nat → Option Nat → Prop
  | none, none => True
  | some l, some l' => m.b l = some l'
  | _, _ => False
theorem RdR.mono {m n : Ab} (hl : m.le n) {a b : Option Nat} (h : RdR m a b) : RdR n a b := by
  cases a <;> cases b <;> first | exact h | exact (hl _ _ h).1
def kindOf (df : Bool) : CallKind := bif df then .deferred else .normal
structure FR (m : Ab) (f n : Nat) (rd : Option Nat) (df : Bool) (T : Tr Value) (ds : List Deferred) (b : Frame) (a : Act) : Prop where
  fn : b.fn = f
  kind : b.kind = kindOf df
  round : RdR m rd b.roundOf
  tmps : TmR m n T a.tmps
  defers : DL m ds a.defers
theorem FR.mono {m k : Ab} (hl : m.le k) {f n : Nat} {rd : Option Nat} {df : Bool} {T : Tr Value} {ds : List Deferred} {b : Frame} {a : Act} (h : FR m f n rd df T ds b a) : FR k f n rd df T ds b a :=
  ⟨h.fn, h.kind, h.round.mono hl, h.tmps.mono hl, h.defers.mono hl⟩
def FinAt (P : Program) (rd : Option Nat) (df : Bool) (f : Nat) (cs : List Frame) (fr : Frame) (W : World) (R : Value → World → Prop) : Prop :=
  match rd, df with
  | none, false => ∃ v W' fr', R v W' ∧ Steps P (lone fr cs W) (lone fr' cs W') ∧ fr'.fn = f ∧ fr'.leaving P W' (.returned v)
  | none, true => ∀ c cs', cs = c :: cs' → c.mode = .returning → ∃ v W', R v W' ∧ Steps P (lone fr cs W) (lone c cs' W')
  | some _, _ => ∀ c cs', cs = c :: cs' → ∃ v W', R v W' ∧ Steps P (lone fr cs W) (lone (c.finish v) cs' W')
theorem FinAt.steps {P : Program} {rd : Option Nat} {df : Bool} {f : Nat} {cs : List Frame} {fr fr1 : Frame} {W W1 : World} {R R1 : Value → World → Prop} (h : Steps P (lone fr cs W) (lone fr1 cs W1))
    (hr : ∀ v W, R1 v W → R v W) (k : FinAt P rd df f cs fr1 W1 R1) : FinAt P rd df f cs fr W R := by
  unfold FinAt at *;split
  · simp only at k;obtain ⟨v, W', fr', h1, h2, h3, h4⟩ := k;exact ⟨v, W', fr', hr _ _ h1, h.trans h2, h3, h4⟩
  · simp only at k;intro c cs' e hc;obtain ⟨v, W', h1, h2⟩ := k c cs' e hc;exact ⟨v, W', hr _ _ h1, h.trans h2⟩
  · simp only at k;intro c cs' e;obtain ⟨v, W', h1, h2⟩ := k c cs' e;exact ⟨v, W', hr _ _ h1, h.trans h2⟩
def frm (b : Frame) (a : Act) (k : List Item) (back : Bool) : Frame := match back with
  | false => b.atR a k
  | true => { b.atR a k with mode := .returning }
def RunOK (P : Program) (O : Memo P) (k : Nat) : Prop :=
  ∀ (f n : Nat) (rd : Option Nat) (df back : Bool) (T : Tr Value) (ds : List Deferred) (td : List Item) (h : Hp) (c : Nat) (v : Value) (h' : Hp) (c' : Nat),
    run P O k ⟨f, n, rd, df, back, T, ds, td⟩ h c = some (v, h', c') →
    ∀ (n0 : Nat) (m : Ab) (W : World) (b : Frame) (a : Act) (td' : List Item) (cs : List Frame), Sat P n0 m h W → FR m f n rd df T ds b a → IL m td td' →
      FinAt P rd df f cs (frm b a td' back) W (fun v' W' => ∃ m', VR m' v v' ∧ St P n0 m m' h h' W W')
theorem okO_vr {m : Ab} {n : Nat} {X : Nat → Prop} {T : Tr Value} {a : Act} (h : TmX m n X T a.tmps) {x : Operand} (hx : okO x = true) (hX : ∀ t, x = .tmp t → ¬ X t) : VR m (evalA T x) (a.eval x) := by
  cases x with
  | tmp t => exact h.2 t (hX t rfl)
  | const v => exact flat_vr m 4 v hx
  | global g => cases hx
  | func f => exact .func f rfl (fun i => .undef) rfl (fun i => .undef)
theorem okOp_ops {m : Ab} {n : Nat} {X : Nat → Prop} {T : Tr Value} {a : Act} (h : TmX m n X T a.tmps) {o : Op} (ho : okOp o = true) (hX : ∀ t, .tmp t ∈ o.operands → ¬ X t) : Ops m (evalA T) a.eval o := by
  intro x hx;refine okO_vr h (List.all_eq_true.1 ho x (by simpa using hx)) ?_;intro t e;subst e;exact hX t hx
theorem valAt_set {T : Tr Value} {d t : Nat} {v : Value} (hd : d + 1 < 2 ^ 64) : valAt (T.set (some v) d) t = if t = d then v else valAt T t := by
  unfold valAt;rw [Tr.get_set _ _ _ _ hd];by_cases e : t = d <;> simp [e]
theorem okDst_lt {n d : Nat} (h : okDst n (some d) = true) : d < n ∧ d + 1 < 2 ^ 64 := by
  simp only [okDst, Bool.and_eq_true] at h;have h1 := Nat.le_of_ble_eq_true h.1;have h2 := Nat.le_of_ble_eq_true h.2;exact ⟨by omega, by omega⟩
theorem putT_rel {m : Ab} {n : Nat} {X : Nat → Prop} {T : Tr Value} {a : Act} {dst : Option Tmp} {v v' : Value} (h : TmX m n X T a.tmps) (hd : okDst n dst = true) (hv : VR m v v') : TmX m n X (putT T dst v) (a.put dst v').tmps := by
  cases dst with
  | none => exact h
  | some d =>
    obtain ⟨h1, h2⟩ := okDst_lt hd;refine ⟨by simp [Act.put, h.1], fun t ht => ?_⟩;simp only [putT, Act.put];rw [valAt_set h2];by_cases e : t = d
    · subst e;have : t < a.tmps.size := by rw [h.1]; exact h1
      simp [this, hv]
    · rw [if_neg e];have := h.2 t ht;have e2 : (a.tmps.setIfInBounds d v').getD t undef = a.tmps.getD t undef := by simp [Array.getElem?_setIfInBounds_ne (Ne.symm e)]
      rw [e2]; exact this
theorem wanted_rel {m : Ab} {n : Nat} {X : Nat → Prop} {T : Tr Value} {a : Act} {ops : Array Oper} {o : Oper} (h : TmX m n X T a.tmps) (hX : ∀ j w t, o.guard = some (j, w) → (ops[j]?).bind (·.dst) = some t → ¬ X t) : Region.wanted o (yielded ops a.tmps) = wantedA ops T o := by
  unfold Region.wanted wantedA;cases hg : o.guard with
  | none => rfl
  | some q =>
    obtain ⟨j, w⟩ := q;simp only [yielded, yieldedA];cases hd : (ops[j]?).bind (·.dst) with
    | none => simp
    | some t =>
      have hr := h.2 t (hX j w t hg hd);simp only [Option.bind_some];have key : ∀ bb, (a.tmps[t]? = some (.bool bb)) ↔ T.get t = some (.bool bb) := by
        intro bb;constructor
        · intro e;have e2 : a.tmps.getD t undef = .bool bb := by simp [e]
          rw [e2] at hr;unfold valAt at hr;cases hT : T.get t with
          | none => rw [hT] at hr; cases hr
          | some v => rw [hT] at hr; cases hr; rfl
        · intro e;unfold valAt at hr;rw [e] at hr;generalize hq : a.tmps.getD t undef = q at hr;cases hr
          cases hx : a.tmps[t]? with
          | none => simp [hx, undef] at hq
          | some v => simp [hx] at hq; rw [hq]
      cases hT : T.get t with
      | none =>
        have : ∀ bb, a.tmps[t]? ≠ some (.bool bb) := fun bb e => by rw [key bb] at e; rw [hT] at e; cases e
        split
        · rename_i b e; exact absurd e (this b)
        · simp
      | some v =>
        by_cases hb : ∃ bb, v = .bool bb
        · obtain ⟨bb, rfl⟩ := hb;rw [(key bb).2 hT];cases bb <;> cases w <;> rfl
        · have : ∀ bb, a.tmps[t]? ≠ some (.bool bb) := fun bb e => by rw [key bb] at e; rw [hT] at e; simp only [Option.some.injEq] at e; exact hb ⟨bb, e⟩
          split
          · rename_i b e; exact absurd e (this b)
          · cases v <;> first | (exact absurd ⟨_, rfl⟩ hb) | rfl
theorem round_eq {m : Ab} {rd r : Option Nat} (h : RdR m rd r) (hn : rd = none) : r = none := by
  subst hn; cases r with
  | none => rfl
  | some _ => exact h.elim
/-! One operation's steps. -/
section
variable {P : Program} {b : Frame} {a : Act} {k : List Item} {cs : List Frame} {w w' : World} {ops : Array Oper} {i : Nat} {rest : List Nat} {o : Oper}
theorem stepR_value {v : Value} (ho : ops[i]? = some o) (hw : Region.wanted o (yielded ops a.tmps) = true) (hr : (o.semAt b.roundOf a.eval).run P w = .ok (.value v) w') :
    step P (lone (b.atR a (.inRegion ops (i :: rest) :: k)) cs w) = .next (lone (b.atR (a.put o.dst v) (.inRegion ops rest :: k)) cs w') := by
  have e : (ops[i]?).bind (·.dst) = o.dst := by rw [ho]; rfl
  rw [← e, ← Frame.finish_atR];exact step_lone_go (by rw [stepGR_op ho hw]; simp [stepG.apply, Sem.runT_eq, hr])
theorem stepR_skipOp (ho : ops[i]? = some o) (hw : Region.wanted o (yielded ops a.tmps) = true) (hr : (o.semAt b.roundOf a.eval).run P w = .ok .skip w') :
    step P (lone (b.atR a (.inRegion ops (i :: rest) :: k)) cs w) = .next (lone (b.atR (a.put o.dst undef) (.inRegion ops rest :: k)) cs w') := by
  have e : (ops[i]?).bind (·.dst) = o.dst := by rw [ho]; rfl
  rw [← e, ← Frame.finish_atR];exact step_lone_go (by rw [stepGR_op ho hw]; simp [stepG.apply, Sem.runT_eq, hr])
theorem stepR_enter {f : FuncId} {args : Array Value} (ho : ops[i]? = some o) (hw : Region.wanted o (yielded ops a.tmps) = true) (hr : (o.semAt b.roundOf a.eval).run P w = .ok (.enter f args) w') :
    step P (lone (b.atR a (.inRegion ops (i :: rest) :: k)) cs w) = .next (lone (Frame.enter P f args .normal) (b.atR a (.inRegion ops (i :: rest) :: k) :: cs) w') :=
  step_lone_go (by rw [stepGR_op ho hw]; simp [stepG.apply, Sem.runT_eq, hr, Frame.atR])
theorem stepR_rnd {l : Nat} {f : FuncId} {tmps : Array Value} {assign body : Code} (ho : ops[i]? = some o) (hw : Region.wanted o (yielded ops a.tmps) = true) (hr : (o.semAt b.roundOf a.eval).run P w = .ok (.round l f tmps assign body) w') :
    step P (lone (b.atR a (.inRegion ops (i :: rest) :: k)) cs w) = .next (lone (Frame.round l f tmps assign body .normal) (b.atR a (.inRegion ops (i :: rest) :: k) :: cs) w') :=
  step_lone_go (by rw [stepGR_op ho hw]; simp [stepG.apply, Sem.runT_eq, hr])
theorem stepR_deferOp {d : Deferred} (ho : ops[i]? = some o) (hw : Region.wanted o (yielded ops a.tmps) = true) (hr : (o.semAt b.roundOf a.eval).run P w = .ok (.defer d) w') :
    step P (lone (b.atR a (.inRegion ops (i :: rest) :: k)) cs w) = .next (lone (b.atR (({ a with defers := d :: a.defers } : Act).put o.dst undef) (.inRegion ops rest :: k)) cs w') := by
  have e : (ops[i]?).bind (·.dst) = o.dst := by rw [ho]; rfl
  rw [← e, ← Frame.finish_atR];exact step_lone_go (by rw [stepGR_op ho hw]; simp [stepG.apply, Sem.runT_eq, hr, Frame.atR])
theorem stepR_recoverOp {c : Frame} (ho : ops[i]? = some o) (hw : Region.wanted o (yielded ops a.tmps) = true) (hr : (o.semAt b.roundOf a.eval).run P w = .ok .recover w') (hb : b.roundOf = none) (hk : b.kind = .deferred) (hc : c.mode = .returning) :
    step P (lone (b.atR a (.inRegion ops (i :: rest) :: k)) (c :: cs) w) = .next (lone (b.atR (a.put o.dst .nilIface) (.inRegion ops rest :: k)) (c :: cs) w') := by
  have e : (ops[i]?).bind (·.dst) = o.dst := by rw [ho]; rfl
  rw [← e, ← Frame.finish_atR];rw [hb] at hr;exact step_lone_go (by rw [stepGR_op ho hw]; simp [stepG.apply, Sem.runT_eq, hr, Frame.atR, hb, tryRecover, hk, hc])
end
theorem trOf_val : ∀ (l : List Value) (i : Nat) (T : Tr Value) (t : Nat), i + l.length < 2 ^ 64 → valAt (trOf i l T) t = if i ≤ t ∧ t < i + l.length then l.getD (t - i) undef else valAt T t
  | [], i, T, t, _ => by simp [trOf]; omega
  | v :: l, i, T, t, h => by
    simp only [List.length_cons] at h;simp only [trOf];rw [trOf_val l (i + 1) _ t (by omega), valAt_set (by omega)];by_cases e : t = i
    · subst e;rw [if_neg (by omega), if_pos rfl, if_pos (by simp only [List.length_cons]; omega)];simp
    · by_cases h1 : i + 1 ≤ t ∧ t < i + 1 + l.length
      · rw [if_pos h1, if_pos (by simp only [List.length_cons]; omega)];have : t - i = (t - (i + 1)) + 1 := by omega
        rw [this]; simp
      · rw [if_neg h1, if_neg e, if_neg (by simp only [List.length_cons]; omega)]
theorem valAt_e (t : Nat) : valAt .e t = undef := rfl
theorem semAt_ok {m : Ab} {rd r : Option Nat} {o : Oper} (h : noDef rd o.op = true) (hr : RdR m rd r) (ρ : Operand → Value) : o.semAt r ρ = execOp ρ o := by
  cases rd with
  | none => rw [round_eq hr rfl]; rfl
  | some l =>
    refine Oper.semAt_eq _ _ _ fun c e => ?_;rw [e] at h;cases h
theorem enter_frm {P : Program} {m : Ab} {g : FuncId} {F : Func} {args : List Value} {args' : Array Value} {df : Bool} {y : AF} (hF : P.funcs[g]? = some F) (e : enterA g F args df = some y) (ha : VL m args args'.toList) :
    ∃ body b a, F.body = some body ∧ y = ⟨g, F.ntmps, none, df, false, trOf 0 args .e, [], [.code body]⟩ ∧ Frame.enter P g args' (kindOf df) = b.atR a [.code body] ∧ FR m g F.ntmps none df (trOf 0 args .e) [] b a := by
  unfold enterA at e;split at e
  case h_2 => cases e
  rename_i body hb;cases hc : (Nat.ble args.length F.ntmps && Nat.ble F.ntmps 1000000) with
  | false => rw [hc] at e; cases e
  | true =>
    rw [hc] at e;simp only [cond_true, Option.some.injEq] at e;simp only [Bool.and_eq_true] at hc;have h1 := Nat.le_of_ble_eq_true hc.1;have h2 := Nat.le_of_ble_eq_true hc.2;refine ⟨body, { (default : Frame) with fn := g, kind := kindOf df, roundOf := none }, ⟨args' ++ Array.replicate (F.ntmps - args'.size) undef, []⟩, hb, e.symm, ?_, rfl, rfl, trivial, ⟨?_, fun t _ => ?_⟩, .nil⟩
    · simp [Frame.enter, hF, hb, Frame.atR]
    · have := ha.1;simp only [Array.length_toList] at this;simp; omega
    · rw [trOf_val _ _ _ _ (by omega), valAt_e];have hl := ha.1;simp only [Array.length_toList] at hl;by_cases ht : t < args.length
      · rw [if_pos (by omega), Nat.sub_zero];have := ha.2 t;have e2 : (args' ++ Array.replicate (F.ntmps - args'.size) undef).getD t undef = args'.toList.getD t undef := by
          rw [agetD, Array.toList_append];simp only [List.getD_eq_getElem?_getD];rw [List.getElem?_append_left (by simp; omega)]
        rw [e2]; exact this
      · rw [if_neg (by omega)];have e2 : (args' ++ Array.replicate (F.ntmps - args'.size) undef).getD t undef = undef := by
          rw [agetD, Array.toList_append];simp only [List.getD_eq_getElem?_getD];rw [List.getElem?_append_right (by simp; omega)];simp only [Array.toList_replicate, List.getElem?_replicate];split <;> rfl
        rw [e2]; exact .undef
theorem fnE_some {P : Program} {g : FuncId} {F : Func} (h : fnE P g = some F) : P.funcs[g]? = some F := by
  unfold fnE at h;split at h
  case h_2 => cases h
  rename_i G hG;split at h
  case h_2 => cases h
  simp only [Option.some.injEq] at h;rw [← h]; exact hG
theorem put_defers (a : Act) (d : List Deferred) (dst : Option Tmp) (v : Value) : (({ a with defers := d } : Act).put dst v).tmps = (a.put dst v).tmps ∧ (({ a with defers := d } : Act).put dst v).defers = d := by
  cases dst <;> exact ⟨rfl, rfl⟩
theorem callee {P : Program} {O : Memo P} {k : Nat} (hR : RunOK P O k) {n0 : Nat} {m : Ab} {h : Hp} {W : World} (s : Sat P n0 m h W) {rd : Option Nat} {df : Bool} {ds : List Deferred} {g : FuncId} {args args' : Array Value} (ha : VRs m args args') {v : Value} {ds' : List Deferred} {h' : Hp} {c c' : Nat}
    (e : outA P O (run P O k) rd df ds h c (.enter g args) = some (v, ds', h', c')) (fr : Frame) (cs : List Frame) : ds' = ds ∧ ∃ m' W' v', Steps P (lone (Frame.enter P g args' .normal) (fr :: cs) W) (lone (fr.finish v') cs W') ∧ VR m' v v' ∧ St P n0 m m' h h' W W' := by
  simp only [outA] at e;split at e
  case h_1 v2 h2 c2 hO =>
    simp only [Option.some.injEq, Prod.mk.injEq] at e;obtain ⟨rfl, rfl, rfl, rfl⟩ := e;obtain ⟨en, W', fr', ⟨v', m', rfl, g1, g2⟩, g3, _, g5⟩ := O.ok hO s ha.list (fr :: cs);exact ⟨rfl, m', W', v', g3.trans (.one (step_leave_returned g5)), g1, g2⟩
  split at e
  case h_2 => cases e
  rename_i F hF;split at e
  case h_2 => cases e
  rename_i y hy;split at e
  case h_2 => cases e
  rename_i v2 h2 c2 hr;simp only [Option.some.injEq, Prod.mk.injEq] at e;obtain ⟨rfl, rfl, rfl, rfl⟩ := e;obtain ⟨body, b2, a2, _, rfl, hen, hfr⟩ := enter_frm (fnE_some hF) hy ha.list;have fin := hR _ _ _ _ _ _ _ _ _ _ _ _ _ hr n0 m W b2 a2 [.code body] (fr :: cs) s hfr (.cons (.code body) .nil);obtain ⟨v', W', fr', ⟨m', hv, hst⟩, hsteps, _, hlv⟩ := fin;refine ⟨rfl, m', W', v', ?_, hv, hst⟩;have hen' : Frame.enter P g args' .normal = frm b2 a2 [.code body] false := hen;rw [hen'];exact hsteps.trans (.one (step_leave_returned hlv))
theorem op_step {P : Program} {O : Memo P} {k : Nat} (hR : RunOK P O k) {n0 : Nat} {m : Ab} {h : Hp} {W : World} (s : Sat P n0 m h W) {rd : Option Nat} {df : Bool} {ds : List Deferred} {b : Frame} {a : Act} (hk : b.kind = kindOf df) (hrd : RdR m rd b.roundOf)
    (hds : DL m ds a.defers) {ops : Array Oper} {i : Nat} {rest : List Nat} {td' : List Item} {o : Oper} (ho : ops[i]? = some o) (hw : Region.wanted o (yielded ops a.tmps) = true) (hsem : noDef rd o.op = true) {out : Out}
    (hout : OutR P n0 m h W (execOp a.eval o) out) {v : Value} {ds' : List Deferred} {h' : Hp} {c c' : Nat} (e : outA P O (run P O k) rd df ds h c out = some (v, ds', h', c')) (cs : List Frame) (hcs : df = true → rd = none → ∃ c cs', cs = c :: cs' ∧ c.mode = .returning) :
    ∃ m' W' v' defers', Steps P (lone (b.atR a (.inRegion ops (i :: rest) :: td')) cs W) (lone (b.atR (({ a with defers := defers' } : Act).put o.dst v') (.inRegion ops rest :: td')) cs W') ∧ VR m' v v' ∧ DL m' ds' defers' ∧ St P n0 m m' h h' W W' := by
  have hse := semAt_ok hsem hrd a.eval;cases out with
  | val w h2 =>
    simp only [outA, Option.some.injEq, Prod.mk.injEq] at e;obtain ⟨rfl, rfl, rfl, rfl⟩ := e;obtain ⟨m', W', v', h1, h2, h3⟩ := hout;exact ⟨m', W', v', a.defers, .one (stepR_value ho hw (by rw [hse]; exact h1)), h2, hds.mono h3.le, h3⟩
  | skip h2 =>
    simp only [outA, Option.some.injEq, Prod.mk.injEq] at e;obtain ⟨rfl, rfl, rfl, rfl⟩ := e;obtain ⟨m', W', h1, h3⟩ := hout;exact ⟨m', W', undef, a.defers, .one (stepR_skipOp ho hw (by rw [hse]; exact h1)), .undef, hds.mono h3.le, h3⟩
  | enter g args =>
    obtain ⟨args', h1, ha⟩ := hout;obtain ⟨rfl, m', W', v', g1, g2, g3⟩ := callee hR s ha e (b.atR a (.inRegion ops (i :: rest) :: td')) cs;refine ⟨m', W', v', a.defers, Steps.head (stepR_enter ho hw (by rw [hse]; exact h1)) ?_, g2, hds.mono g3.le, g3⟩;rw [Frame.finish_atR] at g1;have e : (ops[i]?).bind (·.dst) = o.dst := by rw [ho]; rfl
    rw [e] at g1;exact g1
  | rnd l fn tmps assign body =>
    simp only [outA] at e;cases hb : Nat.ble tmps.toList.length 1000000 with
    | false => rw [hb] at e; cases e
    | true =>
      rw [hb] at e;simp only [cond_true] at e;have hb := Nat.le_of_ble_eq_true hb;split at e
      case h_2 => cases e
      rename_i v2 h2 c2 hr;simp only [Option.some.injEq, Prod.mk.injEq] at e;obtain ⟨rfl, rfl, rfl, rfl⟩ := e;obtain ⟨l', tmps', h1, hl, ht⟩ := hout;have hsz := ht.1
      have fin := hR _ _ _ _ _ _ _ _ _ _ _ _ _ hr n0 m W { (default : Frame) with fn := fn, kind := .normal, roundOf := some l' } ⟨tmps', []⟩ [.code assign, .beginRound, .code body] (b.atR a (.inRegion ops (i :: rest) :: td') :: cs) s
        ⟨rfl, rfl, hl, ⟨by simp [hsz], fun t _ => by
          rw [trOf_val _ _ _ _ (by omega), valAt_e];have := ht.2 t;rw [agetD] at this;by_cases htt : t < tmps.toList.length
          · rw [if_pos (by omega), Nat.sub_zero]; exact this
          · rw [if_neg (by omega)];rw [List.getD_eq_getElem?_getD, List.getElem?_eq_none (by omega)] at this;exact this⟩, .nil⟩ (.cons (.code assign) (.cons .beginRound (.cons (.code body) .nil)))
      obtain ⟨v', W', ⟨m', hv, hst⟩, hsteps⟩ := fin _ _ rfl;refine ⟨m', W', v', a.defers, ?_, hv, hds.mono hst.le, hst⟩;refine Steps.head (stepR_rnd ho hw (by rw [hse]; exact h1)) ?_;rw [Frame.finish_atR] at hsteps;have e : (ops[i]?).bind (·.dst) = o.dst := by rw [ho]; rfl
      rw [e] at hsteps;exact hsteps
  | defer d =>
    simp only [outA] at e;split at e
    case h_2 => cases e
    simp only [Option.some.injEq, Prod.mk.injEq] at e;obtain ⟨rfl, rfl, rfl, rfl⟩ := e;obtain ⟨d', h1, hd⟩ := hout;exact ⟨m, W, undef, d' :: a.defers, .one (stepR_deferOp ho hw (by rw [hse]; exact h1)), .undef, .cons hd hds, St.refl s⟩
  | recover =>
    simp only [outA] at e;split at e
    case h_2 => cases e
    simp only [Option.some.injEq, Prod.mk.injEq] at e;obtain ⟨rfl, rfl, rfl, rfl⟩ := e;obtain ⟨cl, cs', rfl, hm⟩ := hcs rfl rfl;have hn : b.roundOf = none := round_eq hrd rfl;exact ⟨m, W, .nilIface, a.defers, .one (stepR_recoverOp ho hw (by rw [hse]; exact hout) hn hk hm), .nili, hds, St.refl s⟩
/-! What operations look at. -/
theorem map_congr {ρ ρ' : Operand → Value} {l : List Operand} (h : ∀ x ∈ l, ρ x = ρ' x) : l.map ρ = l.map ρ' := List.map_congr_left h
theorem pmap_congr {ρ ρ' : Operand → Value} {l : List (Nat × Operand)} (h : ∀ x ∈ l.map (·.2), ρ x = ρ' x) : (l.map fun (i, x) => (i, ρ x)) = l.map fun (i, x) => (i, ρ' x) :=
  List.map_congr_left fun p hp => by obtain ⟨i, x⟩ := p; simp only [h x (List.mem_map.2 ⟨(i, x), hp, rfl⟩)]
theorem omap_congr {ρ ρ' : Operand → Value} {o : Option Operand} (h : ∀ x ∈ o.toArray, ρ x = ρ' x) : o.map ρ = o.map ρ' := by
  cases o with
  | none => rfl
  | some x => simp only [Option.map_some, h x (by simp)]
theorem sop_congr {P : Program} {ρ ρ' : Operand → Value} {o : Op} (h : ∀ x ∈ o.operands, ρ x = ρ' x) : sop P ρ o = sop P ρ' o := by
  cases o <;> simp only [Op.operands] at h
  case move x => simp only [sop, h x (by simp)]
  case assign x => simp only [sop, h x (by simp)]
  case pick c a b => simp only [sop, h c (by simp), h a (by simp), h b (by simp)]
  case nilCheck x => simp only [sop, h x (by simp)]
  case fieldAddr s x f => simp only [sop, h x (by simp)]
  case field s x f => simp only [sop, h x (by simp)]
  case indexAddr t x ix => simp only [sop, h x (by simp), h ix (by simp)]
  case index t x ix => simp only [sop, h x (by simp), h ix (by simp)]
  case slice t x lo hi mx =>
    simp only [sop, h x (by simp)]
    rw [omap_congr (o := lo) fun y hy => h y (by simp only [Array.mem_append]; exact .inl (.inl (.inr hy))), omap_congr (o := hi) fun y hy => h y (by simp only [Array.mem_append]; exact .inl (.inr hy)),
      omap_congr (o := mx) fun y hy => h y (by simp only [Array.mem_append]; exact .inr hy)]
  case makeInterface t x => simp only [sop, h x (by simp)]
  case makeFunc fn a b =>
    cases fn <;> simp only [sop]
    rw [map_congr (l := a.toList) fun x hx => h x (Array.mem_append.2 (.inl (Array.mem_toList_iff.1 hx))), map_congr (l := b.toList) fun x hx => h x (Array.mem_append.2 (.inr (Array.mem_toList_iff.1 hx)))]
  case extract t ix => simp only [sop, h t (by simp)]
  case build t ps => simp only [sop]; rw [pmap_congr (l := ps.toList) fun x hx => h x (by simpa using hx)]
  case typeAssert x s t ok => simp only [sop, h x (by simp)]
  case binOp op t x y _ => simp only [sop, h x (by simp), h y (by simp)]
  case call c =>
    obtain ⟨callee, args, ts⟩ := c;cases callee with
    | builtin b =>
      simp only [sop];split
      · rename_i x hx;rw [h x (by simp only [Call.operands, Array.mem_append]; exact .inr (Array.mem_toList_iff.1 (by rw [hx]; simp)))]
      · rfl
    | value f => rfl
    | invoke r n => rfl
  all_goals rfl
theorem still1_congr {P : Program} {h : Hp} {ρ ρ' : Operand → Value} {o : Op} (hh : ∀ x ∈ o.operands, ρ x = ρ' x) : still1 P h ρ o = still1 P h ρ' o := by
  cases o <;> simp only [Op.operands] at hh
  case load t a => simp only [still1, hh a (by simp)]
  case lookup t x k ok => simp only [still1, hh x (by simp), hh k (by simp)]
  case convert s d x => simp only [still1, hh x (by simp)]
  case call c =>
    simp only [still1, mcallE];split
    · rename_i x h1 h2;rw [hh x (by simp only [Call.operands, Array.mem_append]; exact .inr (Array.mem_toList_iff.1 (by rw [h2]; simp)))]
    · rfl
  all_goals rfl
theorem newA_congr {P : Program} {ρ ρ' : Operand → Value} {o : Op} (h : ∀ x ∈ o.operands, ρ x = ρ' x) : newA P ρ o = newA P ρ' o := by
  cases o <;> simp only [Op.operands] at h
  case box t x => simp only [newA, h x (by simp)]
  case buildSlice t n ps => simp only [newA]; rw [pmap_congr (l := ps.toList) fun x hx => h x (by simpa using hx)]
  case makeSlice t l c => simp only [newA, h l (by simp), h c (by simp)]
  case makeMap t r =>
    cases r with
    | none => rfl
    | some r => simp only [newA, h r (by simp)]
  all_goals rfl
theorem pureE_congr {P : Program} {ρ ρ' : Operand → Value} {o : Oper} (h : ∀ x ∈ o.op.operands, ρ x = ρ' x) : pureE P ρ o = pureE P ρ' o := by
  unfold pureE;rw [sop_congr h];cases hn : notSel o.op with
  | false => simp
  | true =>
    have hc : execOp ρ o = execOp ρ' o := execOp_congr o (fun cs b q => by rw [q] at hn; cases hn) h;have ha : o.op.operands.toList.all (fun x => flat 4 (ρ x)) = o.op.operands.toList.all (fun x => flat 4 (ρ' x)) := by
      rw [Bool.eq_iff_iff, List.all_eq_true, List.all_eq_true];exact ⟨fun q x hx => by rw [← h x (by simpa using hx)]; exact q x hx, fun q x hx => by rw [h x (by simpa using hx)]; exact q x hx⟩
    rw [hc, ha]
theorem pureE_ok {P : Program} {m : Ab} {ρ ρ' : Operand → Value} {o : Oper} {v : Value} (e : pureE P ρ o = some v) (ho : Ops m ρ ρ' o.op) : ∃ v', VR m v v' ∧ ∀ W, (execOp ρ' o).run P W = .ok (.value v') W := by
  unfold pureE at e;split at e
  case h_1 w hs =>
    simp only [Option.some.injEq] at e;subst e;exact sop_ok hs ho
  case h_2 =>
    cases hb : (notSel o.op && o.op.operands.toList.all fun x => flat 4 (ρ x)) with
    | false => rw [hb] at e; cases e
    | true =>
      rw [hb] at e;simp only [cond_true] at e;simp only [Bool.and_eq_true] at hb;have hn : ∀ cs b, o.op ≠ .select cs b := fun cs b q => by rw [q] at hb; cases hb.1
      have hc : execOp ρ' o = execOp ρ o := execOp_congr o hn fun x hx => flat_eq 4 (by have := List.all_eq_true.1 hb.2 x (by simpa using hx); exact this) (ho x hx);split at e
      case h_2 => cases e
      rename_i w hp;cases hf : flat 4 w with
      | false => rw [hf] at e; cases e
      | true =>
        rw [hf] at e;simp only [cond_true, Option.some.injEq] at e;subst e;exact ⟨w, flat_vr m 4 w hf, fun W => by rw [hc]; exact pureRun_run hp W⟩
theorem all2_eq {f : Value → Value → Bool} (hf : ∀ a b, f a b = true → a = b) : ∀ {l k : List Value}, all2 f l k = true → l = k
  | [], [], _ => rfl
  | a :: l, b :: k, h => by
    simp only [all2, Bool.and_eq_true] at h;rw [hf a b h.1, all2_eq hf h.2]
  | [], _ :: _, h => by cases h
  | _ :: _, [], h => by cases h
theorem aeq_eq {a b : Addr} (h : aeq a b = true) : a = b := by
  obtain ⟨r, o, s⟩ := a;obtain ⟨r', o', s'⟩ := b;simp only [aeq, Bool.and_eq_true] at h;obtain ⟨⟨h1, h2⟩, h3⟩ := h;rw [Nat.eq_of_beq_eq_true h1, Nat.eq_of_beq_eq_true h2];cases s <;> cases s' <;> first | rfl | cases h3
theorem oeq_eq {a b : Option Addr} (h : oeq a b = true) : a = b := by
  cases a <;> cases b <;> first | rfl | (cases h; done) | exact congrArg some (aeq_eq h)
theorem veq_eq : ∀ (d : Nat) (a b : Value), veq d a b = true → a = b := by
  intro d
  induction d with
  | zero =>
    intro a b h;unfold veq at h;split at h <;> (try (cases h; done)) <;> (try rfl)
    case h_1 x y => cases x <;> cases y <;> first | rfl | cases h
    case h_2 => simp only [Bool.and_eq_true, decide_eq_true_eq] at h; rw [h.1, h.2]
    case h_3 => rw [ba_eq h]
    case h_4 => rw [oeq_eq h]
    case h_5 => simp only [Bool.and_eq_true] at h; rw [oeq_eq h.1.1, Nat.eq_of_beq_eq_true h.1.2, Nat.eq_of_beq_eq_true h.2]
    case h_9 => rw [Nat.eq_of_beq_eq_true h]
    all_goals simp_all
  | succ d ih =>
    intro a b h;unfold veq at h;split at h <;> (try (cases h; done)) <;> (try rfl)
    case h_1 x y => cases x <;> cases y <;> first | rfl | cases h
    case h_2 => simp only [Bool.and_eq_true, decide_eq_true_eq] at h; rw [h.1, h.2]
    case h_3 => rw [ba_eq h]
    case h_4 => rw [oeq_eq h]
    case h_5 => simp only [Bool.and_eq_true] at h; rw [oeq_eq h.1.1, Nat.eq_of_beq_eq_true h.1.2, Nat.eq_of_beq_eq_true h.2]
    case h_9 => rw [Nat.eq_of_beq_eq_true h]
    case h_10 e =>
      cases e
      simp only [Bool.and_eq_true] at h;rw [Nat.eq_of_beq_eq_true h.1.1, Array.ext' (all2_eq ih h.1.2), Array.ext' (all2_eq ih h.2)]
    case h_11 e =>
      cases e
      simp only [Bool.and_eq_true] at h;rw [Nat.eq_of_beq_eq_true h.1, ih _ _ h.2]
    case h_12 e =>
      cases e
      rw [Array.ext' (all2_eq ih h)]
    case h_13 e =>
      cases e
      rw [Array.ext' (all2_eq ih h)]
    all_goals simp_all
theorem bit1 (i j : Nat) : (Nat.shiftLeft 1 i).testBit j = decide (j = i) := by
  have : Nat.shiftLeft 1 i = 2 ^ i := by show 1 <<< i = 2 ^ i; rw [Nat.one_shiftLeft]
  rw [this, Nat.testBit_two_pow];by_cases h : i = j
  · simp [h]
  · simp [h, Ne.symm h]
theorem lor_bit (a b j : Nat) : (Nat.lor a b).testBit j = (a.testBit j || b.testBit j) := Nat.testBit_or a b j
theorem land_iff (d L : Nat) : Nat.beq (Nat.land d L) d = true ↔ ∀ j, d.testBit j = true → L.testBit j = true := by
  constructor
  · intro h j hj;have e := Nat.eq_of_beq_eq_true h;have : (Nat.land d L).testBit j = true := by rw [e]; exact hj
    have h2 : (Nat.land d L).testBit j = (d.testBit j && L.testBit j) := Nat.testBit_and d L j;rw [h2, Bool.and_eq_true] at this;exact this.2
  · intro h;rw [beq_iff, decide_eq_true_eq];apply Nat.eq_of_testBit_eq;intro j;have h2 : (Nat.land d L).testBit j = (d.testBit j && L.testBit j) := Nat.testBit_and d L j;rw [h2];cases hd : d.testBit j with
    | false => rfl
    | true => rw [h j hd]; rfl
abbrev X3 := Nat × Nat × Oper
def Done (_ : Array Oper) (o : Oper) (La : Nat → Prop) : Prop := ∀ e ∈ o.after, Region.binds .any e = true → La e.on
def Closed (ops : Array Oper) (La : Nat → Prop) : Prop := ∀ j o, La j → ops[j]? = some o → Done ops o La
theorem depsA_bit (C : Tr Nat) : ∀ (l : List Edge) (j : Nat), (depsA C l).testBit j = true ↔ ∃ e ∈ l, Region.binds .any e = true ∧ (j = e.on ∨ ∃ d, C.get e.on = some d ∧ d.testBit j = true)
  | [], j => by simp [depsA]
  | e :: l, j => by
    simp only [depsA];cases hb : Region.binds .any e with
    | false =>
      simp only [cond_false, depsA_bit C l j, List.mem_cons, exists_eq_or_imp, hb, Bool.false_eq_true, false_and, false_or]
    | true =>
      simp only [cond_true, lor_bit, bit1, Bool.or_eq_true, decide_eq_true_eq, depsA_bit C l j, List.mem_cons, exists_eq_or_imp, hb, true_and];refine or_congr (or_congr Iff.rfl ?_) Iff.rfl;cases hc : C.get e.on with
      | none => simp
      | some d => simp
structure RS (ops : Array Oper) (x : X3) : Prop where
  op : ops[x.1]? = some x.2.2
  dep : ∀ e ∈ x.2.2.after, Region.binds .any e = true → x.2.1.testBit e.on = true
  all : ∀ La, Closed ops La → Done ops x.2.2 La → ∀ j, x.2.1.testBit j = true → La j
theorem remA_spec (ops : Array Oper) : ∀ (l : List Oper) (i : Nat) (C : Tr Nat), (∀ k o, l[k]? = some o → ops[i + k]? = some o) →
    (∀ q dq, C.get q = some dq → ∃ oq, ops[q]? = some oq ∧ ∀ La, Closed ops La → Done ops oq La → ∀ j, dq.testBit j = true → La j) → i + l.length < 2 ^ 63 →
    (∀ x ∈ remA C i l, RS ops x ∧ i ≤ x.1) ∧ (remA C i l).Pairwise (fun x y => x.1 < y.1) ∧ ∀ k, k < l.length → ∃ x ∈ remA C i l, x.1 = i + k
  | [], i, C, _, _, _ => ⟨fun x hx => by simp [remA] at hx, by simp [remA], fun k hk => by simp at hk⟩
  | o :: l, i, C, hl, hC, hi => by
    simp only [List.length_cons] at hi;have h0 : ops[i]? = some o := hl 0 o rfl;have hall : ∀ La, Closed ops La → Done ops o La → ∀ j, (depsA C o.after.toList).testBit j = true → La j := by
      intro La hcl hd j hj;obtain ⟨e, he, hb, h⟩ := (depsA_bit C _ j).1 hj;have he' : e ∈ o.after := Array.mem_toList_iff.1 he;rcases h with rfl | ⟨d, hcd, hdj⟩
      · exact hd e he' hb
      · obtain ⟨oq, ho, hq⟩ := hC _ _ hcd;exact hq La hcl (hcl _ _ (hd e he' hb) ho) j hdj
    obtain ⟨r1, r2, r3⟩ := remA_spec ops l (i + 1) (C.set (some (depsA C o.after.toList)) i) (fun k o' hk => by have := hl (k + 1) o' (by simpa using hk); rw [← this]; congr 1; omega)
      (fun q dq hq => by
        rw [Tr.get_set _ _ _ _ (by omega)] at hq;by_cases e : q = i
        · subst e;simp only [if_true, Option.some.injEq] at hq;subst hq;exact ⟨o, h0, hall⟩
        · simp only [e, if_false] at hq;exact hC q dq hq) (by omega)
    refine ⟨fun x hx => ?_, ?_, fun k hk => ?_⟩
    · simp only [remA, List.mem_cons] at hx;rcases hx with rfl | hx
      · exact ⟨⟨h0, fun e he hb => (depsA_bit C _ _).2 ⟨e, Array.mem_toList_iff.2 he, hb, .inl rfl⟩, hall⟩, Nat.le_refl _⟩
      · exact ⟨(r1 x hx).1, by have := (r1 x hx).2; omega⟩
    · simp only [remA, List.pairwise_cons];exact ⟨fun y hy => by have := (r1 y hy).2; omega, r2⟩
    · simp only [remA, List.mem_cons];cases k with
      | zero => exact ⟨_, .inl rfl, rfl⟩
      | succ k =>
        obtain ⟨x, hx, e⟩ := r3 k (by simpa using hk);exact ⟨x, .inr hx, by omega⟩
theorem dstA_spec {n : Nat} : ∀ {R : Rem} {D : Tr Nat}, dstA n R = some D → ∀ x ∈ R, ∀ t, x.2.2.dst = some t → D.get t = some x.1 ∧ okDst n (some t) = true
  | [], D, _, x, hx, _, _ => by simp at hx
  | (i, d, o) :: l, D, e, x, hx, t, ht => by
    simp only [dstA] at e;split at e
    case h_1 => cases e
    rename_i D' hD;have ih := dstA_spec hD;split at e
    case h_1 hn =>
      simp only [Option.some.injEq] at e;subst e;simp only [List.mem_cons] at hx;rcases hx with rfl | hx
      · simp only at ht; rw [hn] at ht; cases ht
      · exact ih x hx t ht
    case h_2 dd hdd =>
      cases hok : okDst n (some dd) with
      | false => rw [hok] at e; cases e
      | true =>
        rw [hok] at e;simp only [cond_true] at e;split at e
        case h_2 => cases e
        rename_i hnone;simp only [Option.some.injEq] at e;subst e;obtain ⟨h1, h2⟩ := okDst_lt hok;simp only [List.mem_cons] at hx;rcases hx with rfl | hx
        · simp only at ht;rw [hdd] at ht; cases ht;exact ⟨by rw [Tr.get_set _ _ _ _ h2, if_pos rfl], hok⟩
        · obtain ⟨g1, g2⟩ := ih x hx t ht;have hne : t ≠ dd := fun e => by rw [e, hnone] at g1; cases g1
          exact ⟨by rw [Tr.get_set _ _ _ _ h2, if_neg hne]; exact g1, g2⟩
theorem dstA_conv {n : Nat} : ∀ {R : Rem} {D : Tr Nat}, dstA n R = some D → ∀ t i, D.get t = some i → ∃ x ∈ R, x.1 = i ∧ x.2.2.dst = some t
  | [], D, e, t, i, h => by simp only [dstA, Option.some.injEq] at e; subst e; cases h
  | (j, d, o) :: l, D, e, t, i, h => by
    simp only [dstA] at e;split at e
    case h_1 => cases e
    rename_i D' hD;have ih := dstA_conv hD;split at e
    case h_1 hn =>
      simp only [Option.some.injEq] at e;subst e;obtain ⟨x, hx, g⟩ := ih t i h;exact ⟨x, by simp [hx], g⟩
    case h_2 dd hdd =>
      cases hok : okDst n (some dd) with
      | false => rw [hok] at e; cases e
      | true =>
        rw [hok] at e;simp only [cond_true] at e;split at e
        case h_2 => cases e
        simp only [Option.some.injEq] at e;subst e;obtain ⟨_, h2⟩ := okDst_lt hok;rw [Tr.get_set _ _ _ _ h2] at h;by_cases q : t = dd
        · simp only [q, if_true, Option.some.injEq] at h;subst h q;exact ⟨(_, d, o), by simp, rfl, hdd⟩
        · simp only [q, if_false] at h;obtain ⟨x, hx, g⟩ := ih t i h;exact ⟨x, by simp [hx], g⟩
theorem hazL_spec {D : Tr Nat} {d : Nat} : ∀ {l : List Operand} {H : Tr Nat}, (∀ t q, H.get t = some q → D.get t = some q) → ∀ t q, (hazL D d l H).get t = some q → D.get t = some q
  | [], H, h, t, q, e => h t q e
  | x :: l, H, h, t, q, e => by
    cases x with
    | tmp s =>
      simp only [hazL] at e;cases hs : D.get s with
      | none => rw [hs] at e; exact hazL_spec (l := l) h t q e
      | some p =>
        rw [hs] at e;simp only at e;cases hb : Nat.testBit d p with
        | true => rw [hb] at e; exact hazL_spec (l := l) h t q e
        | false =>
          rw [hb] at e;simp only [cond_false] at e;cases hl : Nat.ble (s + 1) 1000000 with
          | false => rw [hl] at e; exact hazL_spec (l := l) h t q e
          | true =>
            rw [hl] at e;simp only [cond_true] at e;rw [Tr.get_set _ _ _ _ (by have := Nat.le_of_ble_eq_true hl; omega)] at e;by_cases q1 : t = s
            · simp only [q1, if_true, Option.some.injEq] at e;rw [q1, ← e]; exact hs
            · simp only [q1, if_false] at e;exact hazL_spec (l := l) h t q e
    | const v => exact hazL_spec (l := l) h t q e
    | global g => exact hazL_spec (l := l) h t q e
    | func f => exact hazL_spec (l := l) h t q e
theorem hazR_spec {D : Tr Nat} : ∀ {R : Rem}, ∀ t q, (hazR D R).get t = some q → D.get t = some q
  | [], _, _, e => by cases e
  | (_, _, _) :: _, t, q, e => hazL_spec (fun t q => hazR_spec t q) t q e
theorem waitsA_spec {q i : Nat} : ∀ {R : Rem}, waitsA q i R = true → ∃ y ∈ R, y.1 = q ∧ y.2.1.testBit i = true
  | [], e => by cases e
  | (j, d, o) :: l, e => by
    simp only [waitsA, Bool.or_eq_true, Bool.and_eq_true] at e;rcases e with ⟨e1, e2⟩ | e
    · exact ⟨(j, d, o), by simp, Nat.eq_of_beq_eq_true e1, e2⟩
    · obtain ⟨y, hy, g⟩ := waitsA_spec e;exact ⟨y, by simp [hy], g⟩
def Sees (H : Tr Nat) (R : Rem) (i d t q : Nat) : Prop := d.testBit q = true ∨ (H.get t = some q ∧ ∃ y ∈ R, y.1 = q ∧ y.2.1.testBit i = true)
theorem looksA_spec {D H : Tr Nat} {R : Rem} {i d : Nat} : ∀ {l : List Operand}, looksA D H R i d l = true → ∀ t, .tmp t ∈ l → ∀ q, D.get t = some q → Sees H R i d t q
  | [], _, t, ht, _, _ => by simp at ht
  | x :: l, h, t, ht, q, hq => by
    simp only [List.mem_cons] at ht;cases x with
    | tmp s =>
      simp only [looksA, Bool.and_eq_true] at h;rcases ht with e | ht
      · cases e
        have := h.1;rw [hq] at this;simp only [Bool.or_eq_true, Bool.and_eq_true] at this;rcases this with g | ⟨g1, g2⟩
        · exact .inl g
        · refine .inr ⟨?_, waitsA_spec g2⟩;split at g1
          case h_1 q' hh => rw [hh, Nat.eq_of_beq_eq_true g1]
          case h_2 => cases g1
      · exact looksA_spec h.2 t ht q hq
    | const v =>
      rcases ht with e | ht
      · cases e
      · exact looksA_spec (l := l) h t ht q hq
    | global g =>
      rcases ht with e | ht
      · cases e
      · exact looksA_spec (l := l) h t ht q hq
    | func f =>
      rcases ht with e | ht
      · cases e
      · exact looksA_spec (l := l) h t ht q hq
structure RO (D H : Tr Nat) (R : Rem) (x : X3) : Prop where
  looks : ∀ t, .tmp t ∈ x.2.2.op.operands → ∀ q, D.get t = some q → Sees H R x.1 x.2.1 t q
  guard : ∀ j w, x.2.2.guard = some (j, w) → x.2.1.testBit j = true
  lt : ∀ e ∈ x.2.2.after, Region.binds .any e = true → e.on < x.1
  self : x.2.1.testBit x.1 = false
  sel : notSel x.2.2.op = true
  ok : okOp x.2.2.op = true
  def_ : ∀ rd, noDef rd x.2.2.op = true
theorem ltA_spec {i : Nat} : ∀ {l : List Edge}, ltA i l = true → ∀ e ∈ l, Region.binds .any e = true → e.on < i
  | [], _, e, he, _ => by simp at he
  | x :: l, h, e, he, hb => by
    simp only [ltA, Bool.and_eq_true, Bool.or_eq_true] at h;simp only [List.mem_cons] at he;rcases he with rfl | he
    · rcases h.1 with h1 | h1
      · rw [hb] at h1; cases h1
      · exact Nat.le_of_ble_eq_true h1
    · exact ltA_spec h.2 e he hb
theorem regA_spec {D H : Tr Nat} {R0 : Rem} : ∀ {R : Rem}, regA D H R0 R = true → ∀ x ∈ R, RO D H R0 x
  | [], _, x, hx => by simp at hx
  | (i, d, o) :: l, h, x, hx => by
    simp only [regA, Bool.and_eq_true] at h;obtain ⟨⟨⟨⟨⟨⟨⟨h1, h2⟩, h3⟩, h4⟩, h5⟩, h6⟩, h7⟩, h8⟩ := h;simp only [List.mem_cons] at hx;rcases hx with rfl | hx
    · refine ⟨fun t ht => looksA_spec h1 t (Array.mem_toList_iff.2 ht), fun j w hg => ?_, fun e he => ltA_spec h3 e (Array.mem_toList_iff.2 he), by simpa using h4, h5, h6, fun rd => ?_⟩
      · simp only at hg;rw [hg] at h2;exact h2
      · cases rd with
        | none => rfl
        | some l =>
          simp only [noDef];split
          · rename_i hop; rw [hop] at h7; cases h7
          · rfl
    · exact regA_spec h8 x hx
inductive Vld (ops : Array Oper) : (Nat → Prop) → List Nat → Prop
  | nil {La : Nat → Prop} (h : ∀ i, i < ops.size → La i) : Vld ops La []
  | cons {La : Nat → Prop} {i : Nat} {l : List Nat} {o : Oper} (ho : ops[i]? = some o) (hn : ¬ La i) (hd : Done ops o La) (k : Vld ops (fun j => La j ∨ j = i) l) : Vld ops La (i :: l)
theorem countP_lt {α : Type} {p q : α → Bool} : ∀ {l : List α}, (∀ x ∈ l, q x = true → p x = true) → (∃ x ∈ l, p x = true ∧ q x = false) → l.countP q < l.countP p
  | [], _, ⟨x, hx, _⟩ => by simp at hx
  | a :: l, h, ⟨x, hx, hp, hq⟩ => by
    simp only [List.countP_cons];have hle : l.countP q ≤ l.countP p := List.countP_mono_left fun y hy => h y (by simp [hy]);simp only [List.mem_cons] at hx;rcases hx with rfl | hx
    · simp [hp, hq]; omega
    · have := countP_lt (fun y hy => h y (by simp [hy])) ⟨x, hx, hp, hq⟩;have ha := h a (by simp);by_cases e : q a = true
      · simp [e, ha e]; exact this
      · simp only [e, if_false, Bool.false_eq_true]; omega
theorem lin_vld {ops : Array Oper} (hlt : ∀ i o, ops[i]? = some o → ∀ e ∈ o.after, Region.binds .any e = true → e.on < i) : ∀ (fuel t : Nat) (listed : Array Bool), listed.size = ops.size → (List.range ops.size).countP (fun i => !listed.getD i true) ≤ fuel →
    Vld ops (fun j => listed.getD j false = true) (Region.linearise.go .any ops fuel t listed []) := by
  have tf : ∀ (listed : Array Bool) i, i < listed.size → listed.getD i true = listed.getD i false := fun listed i hi => by simp [Array.getD, hi]
  have empty : ∀ (listed : Array Bool), listed.size = ops.size → Region.ready .any ops listed = [] → ∀ i, i < ops.size → listed.getD i false = true := by
    intro listed hs hr i
    induction i using Nat.strongRecOn with
    | _ i ih =>
      intro hi;cases hg : listed.getD i false with
      | true => rfl
      | false =>
        have : i ∈ Region.ready .any ops listed := mem_ready.2 ⟨by rw [tf listed i (by omega)]; exact hg, ops[i], by simp [hi], fun e he hb => by
          have hl := hlt i ops[i] (by simp [hi]) e he hb;exact ih e.on hl (by omega)⟩
        rw [hr] at this;cases this
  intro fuel
  induction fuel with
  | zero =>
    intro t listed hs hc;simp only [Region.linearise.go, List.reverse_nil];refine .nil fun i hi => ?_;have h0 : (List.range ops.size).countP (fun i => !listed.getD i true) = 0 := by omega
    rw [List.countP_eq_zero] at h0;have := h0 i (List.mem_range.2 hi);rw [tf listed i (by omega)] at this;simpa using this
  | succ fuel ih =>
    intro t listed hs hc;simp only [Region.linearise.go]
    change Vld ops _ (match (Region.ready .any ops listed)[t % (Region.ready .any ops listed).length]? with
      | some i => Region.linearise.go .any ops fuel (t / (Region.ready .any ops listed).length) (listed.setIfInBounds i true) [i]
      | none => [].reverse)
    cases hi : (Region.ready .any ops listed)[t % (Region.ready .any ops listed).length]? with
    | none =>
      have hnil : Region.ready .any ops listed = [] := by
        cases hr : Region.ready .any ops listed with
        | nil => rfl
        | cons x xs =>
          rw [hr] at hi;have hl : t % (x :: xs).length < (x :: xs).length := Nat.mod_lt _ (by simp);simp at hi;simp at hl;omega
      exact .nil (empty listed hs hnil)
    | some i =>
      simp only [];rw [linearise_go_acc, List.reverse_singleton, List.singleton_append];obtain ⟨h0, o, ho, hd⟩ := mem_ready.1 (List.mem_of_getElem? hi);have hlt' : i < ops.size := (Array.getElem?_eq_some_iff.1 ho).1;refine .cons ho (by rw [← tf listed i (by omega), h0]; simp) hd ?_;have hset : (fun j => listed.getD j false = true ∨ j = i) = fun j => (listed.setIfInBounds i true).getD j false = true := by
        funext j
        apply propext;by_cases e : j = i
        · subst e;have : j < listed.size := by omega
          simp [this]
        · rw [getD_set_ne false (Ne.symm e)];simp [e]
      rw [hset];refine ih _ _ (by simp [hs]) ?_;have : (List.range ops.size).countP (fun k => !(listed.setIfInBounds i true).getD k true) < (List.range ops.size).countP (fun k => !listed.getD k true) := by
        refine countP_lt (fun k hk hq => ?_) ⟨i, List.mem_range.2 hlt', by simp [h0], ?_⟩
        · by_cases e : i = k
          · subst e;have : i < listed.size := by omega
            simp [this] at hq
          · rw [getD_set_ne true e] at hq; exact hq
        · have : i < listed.size := by omega
          simp [this]
      omega
theorem sched_vld {ops : Array Oper} (hlt : ∀ i o, ops[i]? = some o → ∀ e ∈ o.after, Region.binds .any e = true → e.on < i) (t : Nat) : Vld ops (fun _ => False) (Region.schedule true ops t) := by
  have := lin_vld hlt ops.size t (Array.replicate ops.size false) (by simp) (Nat.le_trans List.countP_le_length (by simp));have e : (fun j => (Array.replicate ops.size false).getD j false = true) = fun _ => False := by
    funext j
    apply propext;by_cases h : j < ops.size <;> simp [Array.getD, h]
  rw [e] at this;simpa only [Region.schedule, Bool.true_or, if_true, Region.linearise] using this
theorem St.ahead {P : Program} {n0 : Nat} {m : Ab} {h : Hp} {W : World} (s : Sat P n0 m h W) {i : Nat} {ao : AO} (hi : h.get i = none) (hb : i + 1 < 2 ^ 64) : St P n0 m m h (h.set (some ao) i) W W := by
  have hf := s.fresh hi;have ne : ∀ j r, m.b j = some r → j ≠ i := fun j r e q => by rw [q, hf] at e; cases e
  have lv : ∀ j r, live (h.set (some ao) i) j → m.b j = some r → live h j := fun j r hj e => by
    rw [live_set hb] at hj;rcases hj with ⟨q, _⟩ | ⟨_, lj⟩
    · exact absurd q (ne j r e)
    · exact lj
  refine ⟨⟨m.le_refl, ⟨?_, fun j k r hj hk ej ek => s.inj j k r (lv j r hj ej) (lv k r hk ek) ej ek, fun j r hj e => s.low j r (lv j r hj e) e, ?_, s.base⟩, rfl, rfl, rfl, Nat.le_refl _, fun _ _ _ => rfl, fun j r hj e => .inr ⟨j, lv j r hj e, e⟩⟩, ?_⟩
  · intro j r o e1 e;rw [get_set_ne hb (ne j r e1)] at e;exact s.has j r o e1 e
  · intro j r e;rw [get_set_ne hb (ne j r e)];exact s.dom j r e
  · intro j o h1 h2;have hj : j ≠ i := fun q => by rw [q, hi] at h2; cases h2
    exact ⟨by rw [get_set_ne hb hj]; exact h2, h1⟩
theorem St.known {P : Program} {n0 : Nat} {m m' : Ab} {h h' : Hp} {W W' : World} (s : St P n0 m m' h h' W W') {i : Nat} (hi : (h.get i).isSome = true) : (h'.get i).isSome = true := by
  cases e : m.b i with
  | some r => exact s.sat.dom i r (s.le i r e).1
  | none =>
    cases hg : h.get i with
    | none => rw [hg] at hi; cases hi
    | some o => rw [(s.ghost i o e hg).1]; rfl
theorem St.real {P : Program} {n0 : Nat} {m0 m : Ab} {h0 h : Hp} {W0 W : World} (s : St P n0 m0 m h0 h W0 W) {i : Nat} {o : AO} (hi : h.get i = some o) (hf : m.b i = none) (h0i : h0.get i = none) {ob : Obj} (c : Nat)
    (ho : OR P (m.add i W.heap.size c) i o ob) : St P n0 m0 (m.add i W.heap.size c) h0 h W0 { W with heap := W.heap.push ob } :=
  ⟨s.toSt0.trans (St0.real s.sat hi hf c ho), fun j o' h1 h2 => by
    have hj : j ≠ i := fun q => by rw [q, h0i] at h2; cases h2
    exact ⟨(s.ghost j o' h1 h2).1, by simp [Ab.add, hj, (s.ghost j o' h1 h2).2]⟩⟩
structure Pn where
  x : X3
  v : Value
  kd : Kd
  id : Nat
def Ev (P : Program) (ops : Array Oper) (H : Tr Nat) (T0 : Tr Value) (h0 : Hp) (T : Tr Value) (h : Hp) (m : Ab) (q : Pn) : Prop :=
  match q.kd with
  | .skip => wantedA ops T q.x.2.2 = false ∧ q.v = undef
  | .pure => wantedA ops T q.x.2.2 = true ∧ pureE P (evalW H T0 q.x.2.1 T) q.x.2.2 = some q.v
  | .mem => wantedA ops T q.x.2.2 = true ∧ still1 P h (evalW H T0 q.x.2.1 T) q.x.2.2.op = some q.v
  | .new => wantedA ops T q.x.2.2 = true ∧ ∃ vf ao, newA P (evalW H T0 q.x.2.1 T) q.x.2.2.op = some (vf, ao) ∧ q.v = vf q.id ∧ h.get q.id = some ao ∧ m.b q.id = none ∧ h0.get q.id = none
structure RI (P : Program) (ops : Array Oper) (n : Nat) (R0 : Rem) (H : Tr Nat) (T0 : Tr Value) (n0 : Nat) (m0 : Ab) (h0 : Hp) (W0 : World) (La : Nat → Prop) (L : Nat) (pend : Pend) (rem : Rem) (T : Tr Value) (ds : List Deferred) (h : Hp) (m : Ab) (W : World) (a : Act) (qs : List Pn) : Prop where
  st : St P n0 m0 m h0 h W0 W
  la : ∀ i, La i → L.testBit i = true
  cl : Closed ops La
  remsub : ∀ x ∈ rem, x ∈ R0 ∧ L.testBit x.1 = false
  remall : ∀ x ∈ R0, L.testBit x.1 = true ∨ x ∈ rem
  remnd : rem.Pairwise fun x y => x.1 < y.1
  qall : ∀ x ∈ R0, L.testBit x.1 = true → La x.1 ∨ ∃ q ∈ qs, q.x = x
  qsub : ∀ q ∈ qs, q.x ∈ R0 ∧ L.testBit q.x.1 = true ∧ ¬ La q.x.1 ∧ Ev P ops H T0 h0 T h m q ∧ (∀ t, q.x.2.2.dst = some t → valAt T t = q.v) ∧ ∀ j, q.x.2.1.testBit j = true → L.testBit j = true
  qid : qs.Pairwise fun p q => p.kd = .new → q.kd = .new → p.id ≠ q.id
  qmem : ∀ q ∈ qs, q.kd = .mem → (q.x, q.v) ∈ pend
  tm : TmX m n (fun t => ∃ q ∈ qs, q.x.2.2.dst = some t) T a.tmps
  df : DL m ds a.defers
  ini : ∀ x ∈ R0, ∀ t, x.2.2.dst = some t → ¬ La x.1 → VR m (valAt T0 t) (a.tmps.getD t undef)
section
variable {P : Program} {ops : Array Oper} {n : Nat} {R0 : Rem} {D H : Tr Nat} {T0 : Tr Value}
structure RK (ops : Array Oper) (n : Nat) (R0 : Rem) (D H : Tr Nat) : Prop where
  rs : ∀ x ∈ R0, RS ops x
  nd : R0.Pairwise fun x y => x.1 < y.1
  all : ∀ i, i < ops.size → ∃ x ∈ R0, x.1 = i
  dst : ∀ x ∈ R0, ∀ t, x.2.2.dst = some t → D.get t = some x.1 ∧ okDst n (some t) = true
  conv : ∀ t i, D.get t = some i → ∃ x ∈ R0, x.1 = i ∧ x.2.2.dst = some t
  haz : ∀ t q, H.get t = some q → D.get t = some q
  ro : ∀ x ∈ R0, RO D H R0 x
theorem pair_eq {l : Rem} (h : l.Pairwise fun x y => x.1 < y.1) {x y : X3} (hx : x ∈ l) (hy : y ∈ l) (e : x.1 = y.1) : x = y := by
  induction l with
  | nil => simp at hx
  | cons a l ih =>
    rw [List.pairwise_cons] at h;simp only [List.mem_cons] at hx hy;rcases hx with rfl | hx <;> rcases hy with rfl | hy
    · rfl
    · have := h.1 y hy; omega
    · have := h.1 x hx; omega
    · exact ih h.2 hx hy
theorem gwriter {rk : RK ops n R0 D H} {x y : X3} (hx : x ∈ R0) (hy : y ∈ R0) {j : Nat} {w : Bool} {t : Nat} (hg : x.2.2.guard = some (j, w)) (hj : (ops[j]?).bind (·.dst) = some t) (hd : y.2.2.dst = some t) : x.2.1.testBit y.1 = true := by
  have h1 := (rk.ro x hx).guard j w hg;cases ho : ops[j]? with
  | none => rw [ho] at hj; cases hj
  | some o =>
    rw [ho] at hj;have hjs : j < ops.size := (Array.getElem?_eq_some_iff.1 ho).1;obtain ⟨z, hz, e⟩ := rk.all j hjs;have e2 := (rk.rs z hz).op;rw [e, ho] at e2;simp only [Option.some.injEq] at e2;have hzd : z.2.2.dst = some t := by rw [← e2]; exact hj
    have d1 := (rk.dst z hz t hzd).1;have d2 := (rk.dst y hy t hd).1;rw [d1] at d2;simp only [Option.some.injEq] at d2;rw [← d2, e];exact h1
theorem eval_put {rk : RK ops n R0 D H} {x y : X3} (hx : x ∈ R0) (hy : y ∈ R0) (hn : x.2.1.testBit y.1 = false) (T : Tr Value) (v : Value) :
    (∀ z ∈ x.2.2.op.operands, evalW H T0 x.2.1 (putT T y.2.2.dst v) z = evalW H T0 x.2.1 T z) ∧ wantedA ops (putT T y.2.2.dst v) x.2.2 = wantedA ops T x.2.2 := by
  cases hd : y.2.2.dst with
  | none => exact ⟨fun _ _ => rfl, rfl⟩
  | some d =>
    obtain ⟨h1, h2⟩ := okDst_lt (rk.dst y hy d hd).2;refine ⟨fun z hz => ?_, ?_⟩
    · cases z with
      | tmp t =>
        by_cases e : t = d
        · subst e;rcases (rk.ro x hx).looks t hz _ (rk.dst y hy t hd).1 with g | ⟨g, _⟩
          · rw [hn] at g; cases g
          · simp only [evalW, g, hn, cond_false]
        · have hv : valAt (T.set (some v) d) t = valAt T t := by rw [valAt_set h2, if_neg e]
          simp only [evalW, putT, hv]
      | const _ => rfl
      | global _ => rfl
      | func _ => rfl
    · unfold wantedA;cases hg : x.2.2.guard with
      | none => rfl
      | some p =>
        obtain ⟨j, w⟩ := p;simp only [yieldedA];cases hj : (ops[j]?).bind (·.dst) with
        | none => rfl
        | some t =>
          have hne : t ≠ d := fun e => by
            have := gwriter (rk := rk) hx hy hg hj (by rw [hd, e]);rw [hn] at this; cases this
          simp only [putT];rw [Tr.get_set _ _ _ _ h2, if_neg hne]
theorem Ev.keep {rk : RK ops n R0 D H} {h0 h h' : Hp} {T : Tr Value} {m m' : Ab} {q : Pn} {y : X3} (e : Ev P ops H T0 h0 T h m q) (hx : q.x ∈ R0) (hy : y ∈ R0) (hn : q.x.2.1.testBit y.1 = false) (v : Value)
    (hmem : q.kd = .mem → still1 P h' (evalW H T0 q.x.2.1 (putT T y.2.2.dst v)) q.x.2.2.op = some q.v) (hnew : q.kd = .new → ∀ ao, h.get q.id = some ao → m.b q.id = none → h'.get q.id = some ao ∧ m'.b q.id = none) : Ev P ops H T0 h0 (putT T y.2.2.dst v) h' m' q := by
  obtain ⟨h1, h2⟩ := eval_put (rk := rk) (T0 := T0) hx hy hn T v;unfold Ev at *;cases hk : q.kd with
  | skip => simp only [hk] at e ⊢; rw [h2]; exact e
  | pure => simp only [hk] at e ⊢; rw [h2, pureE_congr (ρ' := evalW H T0 q.x.2.1 T) h1]; exact e
  | mem => simp only [hk] at e ⊢; rw [h2]; exact ⟨e.1, hmem hk⟩
  | new =>
    simp only [hk] at e ⊢;obtain ⟨e1, vf, ao, e2, e3, e4, e5, e6⟩ := e;obtain ⟨g1, g2⟩ := hnew hk ao e4 e5;rw [h2, newA_congr (ρ' := evalW H T0 q.x.2.1 T) h1];exact ⟨e1, vf, ao, e2, e3, g1, g2, e6⟩
theorem againA_spec {h : Hp} {T : Tr Value} : ∀ {l : Pend}, againA P h H T0 T l = true → ∀ x v, (x, v) ∈ l → still1 P h (evalW H T0 x.2.1 T) x.2.2.op = some v
  | [], _, x, v, hm => by simp at hm
  | ((i', d', o'), v') :: l, e, x, v, hm => by
    simp only [againA, Bool.and_eq_true] at e;simp only [List.mem_cons] at hm;rcases hm with q | hm
    · cases q
      have h1 := e.1;split at h1
      case h_1 w hw => rw [hw, veq_eq 6 _ _ h1]
      case h_2 => cases h1
    · exact againA_spec e.2 x v hm
theorem pruneA_mem {d : Nat} : ∀ {l : Pend} {x : X3} {v : Value}, (x, v) ∈ l → d.testBit x.1 = false → (x, v) ∈ pruneA d l
  | [], x, v, h, _ => by simp at h
  | ((i', d', o'), v') :: l, x, v, h, hd => by
    simp only [pruneA];simp only [List.mem_cons] at h;rcases h with q | h
    · cases q
      simp only at hd;rw [hd]; simp
    · cases hb : d.testBit i' with
      | true => exact pruneA_mem h hd
      | false => simp only [cond_false, List.mem_cons]; exact .inr (pruneA_mem h hd)
theorem pickA_spec {h : Hp} {c : Nat} {T : Tr Value} {L : Nat} : ∀ {rem : Rem} {x : X3} {v : Value} {kd : Kd} {h' : Hp} {r : Rem}, pickA P h c ops H T0 T L rem = some (x, v, kd, h', r) →
    x ∈ rem ∧ Nat.beq (Nat.land x.2.1 L) x.2.1 = true ∧ (∀ y, y ∈ rem ↔ y = x ∨ y ∈ r) ∧ (rem.Pairwise (fun x y => x.1 < y.1) → r.Pairwise (fun x y => x.1 < y.1) ∧ ∀ y ∈ r, y.1 ≠ x.1) ∧
      ((∃ vf ao, takeE P h ops T (evalW H T0 x.2.1 T) x.2.2 = some (.new vf ao) ∧ layE h c ao = some h' ∧ v = vf c ∧ kd = .new) ∨ (takeE P h ops T (evalW H T0 x.2.1 T) x.2.2 = some (.val v kd) ∧ h' = h))
  | [], x, v, kd, h', r, e => by cases e
  | (i, d, o) :: l, x, v, kd, h', r, e => by
    simp only [pickA] at e;cases hb : Nat.beq (Nat.land d L) d with
    | false =>
      rw [hb] at e;simp only [cond_false] at e;split at e
      case h_2 => cases e
      rename_i x2 v2 k2 h2 r2 hp;simp only [Option.some.injEq, Prod.mk.injEq] at e;obtain ⟨rfl, rfl, rfl, rfl, rfl⟩ := e;obtain ⟨a1, a2, a3, a4, a5⟩ := pickA_spec hp;refine ⟨by simp [a1], a2, fun y => by simp only [List.mem_cons, a3 y]; exact ⟨fun q => by rcases q with q | q | q <;> simp [q], fun q => by rcases q with q | q | q <;> simp [q]⟩, fun hpw => ?_, a5⟩;rw [List.pairwise_cons] at hpw;obtain ⟨b1, b2⟩ := a4 hpw.2;refine ⟨List.pairwise_cons.2 ⟨fun y hy => hpw.1 y ((a3 y).2 (.inr hy)), b1⟩, fun y hy => ?_⟩;simp only [List.mem_cons] at hy;rcases hy with rfl | hy
      · have := hpw.1 _ a1; simp only at this ⊢; omega
      · exact b2 y hy
    | true =>
      rw [hb] at e;simp only [cond_true] at e;split at e
      case h_1 v2 k2 ht =>
        simp only [Option.some.injEq, Prod.mk.injEq] at e;obtain ⟨rfl, rfl, rfl, rfl, rfl⟩ := e;refine ⟨by simp, hb, fun y => by simp, fun hpw => ?_, .inr ⟨ht, rfl⟩⟩;rw [List.pairwise_cons] at hpw;exact ⟨hpw.2, fun y hy => by have := hpw.1 y hy; simp only at this ⊢; omega⟩
      case h_2 vf ao ht =>
        split at e
        case h_2 => cases e
        rename_i h2 hl;simp only [Option.some.injEq, Prod.mk.injEq] at e;obtain ⟨rfl, rfl, rfl, rfl, rfl⟩ := e;refine ⟨by simp, hb, fun y => by simp, fun hpw => ?_, .inl ⟨vf, ao, ht, hl, rfl, rfl⟩⟩;rw [List.pairwise_cons] at hpw;exact ⟨hpw.2, fun y hy => by have := hpw.1 y hy; simp only at this ⊢; omega⟩
      case h_3 =>
        split at e
        case h_2 => cases e
        rename_i x2 v2 k2 h2 r2 hp;simp only [Option.some.injEq, Prod.mk.injEq] at e;obtain ⟨rfl, rfl, rfl, rfl, rfl⟩ := e;obtain ⟨a1, a2, a3, a4, a5⟩ := pickA_spec hp;refine ⟨by simp [a1], a2, fun y => by simp only [List.mem_cons, a3 y]; exact ⟨fun q => by rcases q with q | q | q <;> simp [q], fun q => by rcases q with q | q | q <;> simp [q]⟩, fun hpw => ?_, a5⟩;rw [List.pairwise_cons] at hpw;obtain ⟨b1, b2⟩ := a4 hpw.2;refine ⟨List.pairwise_cons.2 ⟨fun y hy => hpw.1 y ((a3 y).2 (.inr hy)), b1⟩, fun y hy => ?_⟩;simp only [List.mem_cons] at hy;rcases hy with rfl | hy
        · have := hpw.1 _ a1; simp only at this ⊢; omega
        · exact b2 y hy
theorem noneReady_spec {L : Nat} : ∀ {rem : Rem}, noneReady L rem = true → ∀ y ∈ rem, Nat.beq (Nat.land y.2.1 L) y.2.1 = false
  | [], _, y, hy => by simp at hy
  | (i, d, o) :: l, e, y, hy => by
    simp only [noneReady, Bool.and_eq_true, Bool.not_eq_true'] at e;simp only [List.mem_cons] at hy;rcases hy with rfl | hy
    · exact e.1
    · exact noneReady_spec e.2 y hy
theorem soleA_spec {L : Nat} : ∀ {rem : Rem} {x : X3} {r : Rem}, soleA L rem = some (x, r) →
    x ∈ rem ∧ (∀ y, y ∈ rem ↔ y = x ∨ y ∈ r) ∧ (rem.Pairwise (fun x y => x.1 < y.1) → r.Pairwise (fun x y => x.1 < y.1) ∧ ∀ y ∈ r, y.1 ≠ x.1) ∧ ∀ y ∈ rem, Nat.beq (Nat.land y.2.1 L) y.2.1 = true → y = x
  | [], x, r, e => by cases e
  | (i, d, o) :: l, x, r, e => by
    simp only [soleA] at e;cases hb : Nat.beq (Nat.land d L) d with
    | true =>
      rw [hb] at e;simp only [cond_true] at e;cases hn : noneReady L l with
      | false => rw [hn] at e; cases e
      | true =>
        rw [hn] at e;simp only [cond_true, Option.some.injEq, Prod.mk.injEq] at e;obtain ⟨rfl, rfl⟩ := e;refine ⟨by simp, fun y => by simp, fun hpw => ?_, fun y hy hr => ?_⟩
        · rw [List.pairwise_cons] at hpw;exact ⟨hpw.2, fun y hy => by have := hpw.1 y hy; simp only at this ⊢; omega⟩
        · simp only [List.mem_cons] at hy;rcases hy with rfl | hy
          · rfl
          · rw [noneReady_spec hn y hy] at hr; cases hr
    | false =>
      rw [hb] at e;simp only [cond_false] at e;split at e
      case h_2 => cases e
      rename_i x2 r2 hs;simp only [Option.some.injEq, Prod.mk.injEq] at e;obtain ⟨rfl, rfl⟩ := e;obtain ⟨a1, a3, a4, a5⟩ := soleA_spec hs;refine ⟨by simp [a1], fun y => by simp only [List.mem_cons, a3 y]; exact ⟨fun q => by rcases q with q | q | q <;> simp [q], fun q => by rcases q with q | q | q <;> simp [q]⟩, fun hpw => ?_, fun y hy hr => ?_⟩
      · rw [List.pairwise_cons] at hpw;obtain ⟨b1, b2⟩ := a4 hpw.2;refine ⟨List.pairwise_cons.2 ⟨fun y hy => hpw.1 y ((a3 y).2 (.inr hy)), b1⟩, fun y hy => ?_⟩;simp only [List.mem_cons] at hy;rcases hy with rfl | hy
        · have := hpw.1 _ a1; simp only at this ⊢; omega
        · exact b2 y hy
      · simp only [List.mem_cons] at hy;rcases hy with rfl | hy
        · simp only at hr; rw [hb] at hr; cases hr
        · exact a5 y hy hr
theorem takeE_spec {h : Hp} {T : Tr Value} {ρ : Operand → Value} {o : Oper} {k : Tk} (e : takeE P h ops T ρ o = some k) :
    (k = .val undef .skip ∧ wantedA ops T o = false) ∨ (wantedA ops T o = true ∧ ((∃ v, k = .val v .mem ∧ still1 P h ρ o.op = some v) ∨ (∃ v, k = .val v .pure ∧ pureE P ρ o = some v) ∨ ∃ vf ao, k = .new vf ao ∧ newA P ρ o.op = some (vf, ao))) := by
  unfold takeE at e;split at e
  case h_1 hw => simp only [Option.some.injEq] at e; exact .inl ⟨e.symm, hw⟩
  case h_2 hw =>
    refine .inr ⟨hw, ?_⟩;split at e
    case h_1 v hv => simp only [Option.some.injEq] at e; exact .inl ⟨v, e.symm, hv⟩
    case h_2 =>
      split at e
      case h_1 vf ao hv => simp only [Option.some.injEq] at e; exact .inr (.inr ⟨vf, ao, e.symm, hv⟩)
      case h_2 =>
        split at e
        case h_1 v hv => simp only [Option.some.injEq] at e; exact .inr (.inl ⟨v, e.symm, hv⟩)
        case h_2 => cases e
end
section
variable {P : Program} {ops : Array Oper} {n : Nat} {R0 : Rem} {D H : Tr Nat} {T0 : Tr Value}
theorem okDst_of {rk : RK ops n R0 D H} {x : X3} (hx : x ∈ R0) : okDst n x.2.2.dst = true := by
  cases hd : x.2.2.dst with
  | none => rfl
  | some d => exact (rk.dst x hx d hd).2
theorem dst_ne {rk : RK ops n R0 D H} {x y : X3} (hx : x ∈ R0) (hy : y ∈ R0) (hne : x.1 ≠ y.1) {t : Nat} (h1 : x.2.2.dst = some t) (h2 : y.2.2.dst = some t) : False := by
  have a := (rk.dst x hx t h1).1;have b := (rk.dst y hy t h2).1;rw [a] at b;simp only [Option.some.injEq] at b;exact hne b
theorem putT_ne {T : Tr Value} {dst : Option Tmp} {v : Value} {t : Nat} (hok : okDst n dst = true) (h : dst ≠ some t) : valAt (putT T dst v) t = valAt T t := by
  cases dst with
  | none => rfl
  | some d =>
    obtain ⟨_, h2⟩ := okDst_lt hok;show valAt (T.set (some v) d) t = _
    rw [valAt_set h2, if_neg (fun e => h (by rw [e]))]
theorem putT_eq {T : Tr Value} {dst : Option Tmp} {v : Value} {t : Nat} (hok : okDst n dst = true) (h : dst = some t) : valAt (putT T dst v) t = v := by
  subst h;obtain ⟨_, h2⟩ := okDst_lt hok;show valAt (T.set (some v) t) t = _
  rw [valAt_set h2, if_pos rfl]
variable {n0 : Nat} {m0 : Ab} {h0 : Hp} {W0 : World} {La : Nat → Prop} {L : Nat} {pend : Pend} {rem : Rem} {T : Tr Value} {ds : List Deferred} {h : Hp} {m : Ab} {W : World} {a : Act} {qs : List Pn}
theorem RI.clear {rk : RK ops n R0 D H} (I : RI P ops n R0 H T0 n0 m0 h0 W0 La L pend rem T ds h m W a qs) {x : X3} (hx : x ∈ R0) (hn : ¬ La x.1) (hd : ∀ j, x.2.1.testBit j = true → La j) :
    Ops m (evalW H T0 x.2.1 T) a.eval x.2.2.op ∧ (∀ j w t, x.2.2.guard = some (j, w) → (ops[j]?).bind (·.dst) = some t → ¬ ∃ q ∈ qs, q.x.2.2.dst = some t) := by
  refine ⟨fun z hz => ?_, fun j w t hg hj ⟨q, hq, hdst⟩ => ?_⟩
  · have hok := List.all_eq_true.1 (rk.ro x hx).ok z (by simpa using hz);cases z with
    | tmp t =>
      have sees := (rk.ro x hx).looks t hz;have now : (∀ q ∈ qs, q.x.2.2.dst = some t → x.2.1.testBit q.x.1 = true) → VR m (valAt T t) (a.eval (.tmp t)) := fun hh =>
        okO_vr (x := .tmp t) I.tm hok fun s e => by
          cases e
          rintro ⟨q, hq, hdst⟩;exact (I.qsub q hq).2.2.1 (hd _ (hh q hq hdst))
      cases hH : H.get t with
      | none =>
        simp only [evalW, hH];refine now fun q hq hdst => ?_;rcases sees _ (rk.dst q.x (I.qsub q hq).1 t hdst).1 with g | ⟨g, _⟩
        · exact g
        · rw [hH] at g; cases g
      | some q' =>
        cases hb : x.2.1.testBit q' with
        | true =>
          simp only [evalW, hH, hb, cond_true];refine now fun q hq hdst => ?_;rcases sees _ (rk.dst q.x (I.qsub q hq).1 t hdst).1 with g | ⟨g, _⟩
          · exact g
          · rw [hH] at g; cases g; exact hb
        | false =>
          simp only [evalW, hH, hb, cond_false];have hD := rk.haz t q' hH;obtain ⟨y, hy, e1, e2⟩ := rk.conv t q' hD;rcases sees q' hD with g | ⟨_, y2, hy2, e3, e4⟩
          · rw [hb] at g; cases g
          · have := pair_eq rk.nd hy2 hy (e3.trans e1.symm);subst this;have hnl : ¬ La y2.1 := fun hl => hn ((rk.rs y2 hy).all La I.cl (I.cl _ _ hl (rk.rs y2 hy).op) _ e4);exact I.ini y2 hy t e2 hnl
    | const v => exact okO_vr (x := .const v) I.tm hok fun s e => by cases e
    | global g => exact okO_vr (x := .global g) I.tm hok fun s e => by cases e
    | func f => exact okO_vr (x := .func f) I.tm hok fun s e => by cases e
  · have := I.qsub q hq;exact this.2.2.1 (hd _ (gwriter (rk := rk) hx this.1 hg hj hdst))
theorem RI.exec {rk : RK ops n R0 D H} (I : RI P ops n R0 H T0 n0 m0 h0 W0 La L pend rem T ds h m W a qs) {rd : Option Nat} {b : Frame} (hrd : RdR m rd b.roundOf) {q : Pn} (hq : q ∈ qs) (hd : ∀ j, q.x.2.1.testBit j = true → La j) (td' : List Item) (cs : List Frame) (π : List Nat) :
    ∃ m' W' v', step P (lone (b.atR a (.inRegion ops (q.x.1 :: π) :: td')) cs W) = .next (lone (b.atR (a.put q.x.2.2.dst v') (.inRegion ops π :: td')) cs W') ∧ VR m' q.v v' ∧ St P n0 m0 m' h0 h W0 W' ∧
      (m.le m') ∧ ∀ i, m.b i = none → (q.kd = .new → i ≠ q.id) → m'.b i = none := by
  obtain ⟨k1, k2, k3, k4, k5, k6⟩ := I.qsub q hq;have ho := (rk.rs q.x k1).op;obtain ⟨hops, c2⟩ := I.clear (rk := rk) k1 k3 hd;have hw := wanted_rel (ops := ops) (o := q.x.2.2) I.tm c2;have hse := semAt_ok ((rk.ro q.x k1).def_ rd) hrd a.eval;unfold Ev at k4;cases hk : q.kd with
  | skip =>
    simp only [hk] at k4;refine ⟨m, W, undef, ?_, by rw [k4.2]; exact .undef, I.st, m.le_refl, fun i hi _ => hi⟩;have e : (ops[q.x.1]?).bind (·.dst) = q.x.2.2.dst := by rw [ho]; rfl
    rw [← e];exact stepR_op_skip (by rw [ho]; simp only [Option.map_some, Option.getD_some]; rw [hw]; exact k4.1)
  | pure =>
    simp only [hk] at k4;obtain ⟨v', g1, g2⟩ := pureE_ok k4.2 hops;exact ⟨m, W, v', stepR_value ho (by rw [hw]; exact k4.1) (by rw [hse]; exact g2 W), g1, I.st, m.le_refl, fun i hi _ => hi⟩
  | mem =>
    simp only [hk] at k4;obtain ⟨v', g1, g2⟩ := still1_ok I.st.sat k4.2 hops;exact ⟨m, W, v', stepR_value ho (by rw [hw]; exact k4.1) (by rw [hse]; exact g2), g1, I.st, m.le_refl, fun i hi _ => hi⟩
  | new =>
    simp only [hk] at k4;obtain ⟨e1, vf, ao, e2, e3, e4, e5, e6⟩ := k4;obtain ⟨s, hs, ob, vf', g1, g2, g3⟩ := newA_ok e2 hops;have hle : m.le (m.add q.id W.heap.size 0) := Ab.le_add e5;refine ⟨m.add q.id W.heap.size 0, _, vf' W.heap.size, stepR_value ho (by rw [hw]; exact e1) (by rw [hse, hs]; simp [g1 W]), by rw [e3]; exact g3 _ _ _ (by simp [Ab.add]), I.st.real e4 e5 e6 0 (g2 _ _ hle), hle, fun i hi hne => ?_⟩;simp [Ab.add, hne rfl, hi]
end
section
variable {P : Program} {ops : Array Oper} {n : Nat} {R0 : Rem} {D H : Tr Nat} {T0 : Tr Value}
variable {n0 : Nat} {m0 : Ab} {h0 : Hp} {W0 : World} {La : Nat → Prop} {L : Nat} {pend : Pend} {rem : Rem} {T : Tr Value} {ds : List Deferred} {h : Hp} {m : Ab} {W : World} {a : Act} {qs : List Pn}
theorem lor1 {L i j : Nat} : (Nat.lor L (Nat.shiftLeft 1 i)).testBit j = true ↔ L.testBit j = true ∨ j = i := by rw [lor_bit, bit1]; simp
theorem lor0 {L i j : Nat} (h : L.testBit j = false) (hj : j ≠ i) : (Nat.lor L (Nat.shiftLeft 1 i)).testBit j = false := by rw [lor_bit, bit1, h]; simp [hj]
theorem Done.or {o : Oper} {i : Nat} (h : Done ops o La) : Done ops o (fun j => La j ∨ j = i) := fun e he hb => .inl (h e he hb)
theorem Closed.or {o : Oper} {i : Nat} (h : Closed ops La) (ho : ops[i]? = some o) (hd : Done ops o La) : Closed ops (fun j => La j ∨ j = i) := by
  intro j o' hj ho';rcases hj with hj | rfl
  · exact (h j o' hj ho').or
  · rw [ho] at ho'; cases ho';exact hd.or
theorem RI.behind {rk : RK ops n R0 D H} (I : RI P ops n R0 H T0 n0 m0 h0 W0 La L pend rem T ds h m W a qs) {q : Pn} (hq : q ∈ qs) (hdone : Done ops q.x.2.2 La) {m' : Ab} {W' : World} {v' : Value} (hv : VR m' q.v v') (st : St P n0 m0 m' h0 h W0 W') (hle : m.le m')
    (hb : ∀ i, m.b i = none → (q.kd = .new → i ≠ q.id) → m'.b i = none) :
    RI P ops n R0 H T0 n0 m0 h0 W0 (fun j => La j ∨ j = q.x.1) L pend rem T ds h m' W' (a.put q.x.2.2.dst v') (qs.filter fun p => p.x.1 != q.x.1) := by
  obtain ⟨k1, k2, k3, k4, k5, k6⟩ := I.qsub q hq;have mem : ∀ p, p ∈ qs.filter (fun p => p.x.1 != q.x.1) → p ∈ qs ∧ p.x.1 ≠ q.x.1 := fun p hp => by simpa using hp
  refine ⟨st, ?_, I.cl.or (rk.rs q.x k1).op hdone, I.remsub, I.remall, I.remnd, ?_, ?_, I.qid.filter _, fun p hp hk => I.qmem p (mem p hp).1 hk, ?_, ?_, ?_⟩
  · rintro i (hi | rfl)
    · exact I.la i hi
    · exact k2
  · intro x hx hL;rcases I.qall x hx hL with hl | ⟨p, hp, e⟩
    · exact .inl (.inl hl)
    · by_cases e1 : p.x.1 = q.x.1
      · exact .inl (.inr (by rw [← e]; exact e1))
      · exact .inr ⟨p, by simp [hp, e1], e⟩
  · intro p hp;obtain ⟨hp, hne⟩ := mem p hp;obtain ⟨p1, p2, p3, p4, p5, p6⟩ := I.qsub p hp;refine ⟨p1, p2, fun e => e.elim p3 hne, ?_, p5, p6⟩;unfold Ev at *;cases hk : p.kd with
    | skip => simp only [hk] at p4 ⊢; exact p4
    | pure => simp only [hk] at p4 ⊢; exact p4
    | mem => simp only [hk] at p4 ⊢; exact p4
    | new =>
      simp only [hk] at p4 ⊢;obtain ⟨e1, vf, ao, e2, e3, e4, e5, e6⟩ := p4;refine ⟨e1, vf, ao, e2, e3, e4, hb _ e5 fun hqk e => ?_, e6⟩;have hpq : p ≠ q := fun e => hne (by rw [e]);have := I.qid;have hh := List.pairwise_iff_getElem.1 this;obtain ⟨i, hi, ei⟩ := List.getElem_of_mem hp;obtain ⟨j, hj, ej⟩ := List.getElem_of_mem hq;rcases Nat.lt_trichotomy i j with hij | hij | hij
      · have := hh i j hi hj hij;rw [ei, ej] at this;exact this hk hqk e
      · subst hij; exact hpq (ei.symm.trans ej)
      · have := hh j i hj hi hij;rw [ei, ej] at this;exact this hqk hk e.symm
  · have htm := I.tm;refine ⟨?_, fun t ht => ?_⟩
    · cases hd : q.x.2.2.dst with
      | none => exact htm.1
      | some d => simp [Act.put, htm.1]
    · by_cases e : q.x.2.2.dst = some t
      · rw [k5 t e];have hok := (rk.dst q.x k1 t e).2;obtain ⟨g1, _⟩ := okDst_lt hok;have : (a.put q.x.2.2.dst v').tmps.getD t undef = v' := by
          rw [e];have : t < a.tmps.size := by rw [htm.1]; exact g1
          simp [Act.put, this]
        rw [this]; exact hv
      · have h1 : ¬ ∃ p ∈ qs, p.x.2.2.dst = some t := by
          rintro ⟨p, hp, hd⟩;by_cases e1 : p.x.1 = q.x.1
          · have : p.x = q.x := pair_eq rk.nd (I.qsub p hp).1 k1 e1;exact e (by rw [← this]; exact hd)
          · exact ht ⟨p, by simp [hp, e1], hd⟩
        have h2 : (a.put q.x.2.2.dst v').tmps.getD t undef = a.tmps.getD t undef := by
          cases hd : q.x.2.2.dst with
          | none => rfl
          | some d =>
            have hne : d ≠ t := fun e2 => e (by rw [hd, e2]);simp [Act.put, Array.getElem?_setIfInBounds_ne hne]
        rw [h2];exact (htm.2 t h1).mono hle
  · have : (a.put q.x.2.2.dst v').defers = a.defers := by cases q.x.2.2.dst <;> rfl
    rw [this];exact I.df.mono hle
  · intro x hx t ht hn;have h1 : ¬ La x.1 := fun g => hn (.inl g);have h2 : x.1 ≠ q.x.1 := fun g => hn (.inr g);have h3 : (a.put q.x.2.2.dst v').tmps.getD t undef = a.tmps.getD t undef := by
      cases hd : q.x.2.2.dst with
      | none => rfl
      | some d =>
        have hne : d ≠ t := fun e2 => dst_ne (rk := rk) hx k1 h2 ht (by rw [hd, e2]);simp [Act.put, Array.getElem?_setIfInBounds_ne hne]
    rw [h3];exact (I.ini x hx t ht h1).mono hle
theorem RI.ahead {rk : RK ops n R0 D H} (I : RI P ops n R0 H T0 n0 m0 h0 W0 La L pend rem T ds h m W a qs) {c : Nat} {x : X3} {v : Value} {kd : Kd} {h1 : Hp} {r : Rem} (e : pickA P h c ops H T0 T L rem = some (x, v, kd, h1, r)) {pend' : Pend}
    (hp : ∀ y ∈ pend, y ∈ pend') (hm : kd = .mem → (x, v) ∈ pend') (hag : kd = .new → againA P h1 H T0 (putT T x.2.2.dst v) pend = true) :
    RI P ops n R0 H T0 n0 m0 h0 W0 La (Nat.lor L (Nat.shiftLeft 1 x.1)) pend' r (putT T x.2.2.dst v) ds h1 m W a ({ x := x, v := v, kd := kd, id := c } :: qs) := by
  obtain ⟨a1, a2, a3, a4, a5⟩ := pickA_spec e;obtain ⟨hxR, hxL⟩ := I.remsub x a1;obtain ⟨b1, b2⟩ := a4 I.remnd;have hbits := (land_iff _ _).1 a2;have hself := (rk.ro x hxR).self;obtain ⟨ev1, ev2⟩ := eval_put (rk := rk) (T0 := T0) hxR hxR hself T v;have hok := okDst_of (rk := rk) hxR;have hqn : ∀ q ∈ qs, q.x.2.1.testBit x.1 = false := fun q hq => by
    cases hb : q.x.2.1.testBit x.1 with
    | false => rfl
    | true => have := (I.qsub q hq).2.2.2.2.2 _ hb; rw [hxL] at this; cases this
  have hne : ∀ q ∈ qs, q.x.1 ≠ x.1 := fun q hq e => by have := (I.qsub q hq).2.1; rw [e, hxL] at this; cases this
  have hnew : kd = .new → ∃ ao, h.get c = none ∧ c + 1 < 2 ^ 64 ∧ h1 = h.set (some ao) c := fun hk => by
    rcases a5 with ⟨vf, ao, _, hl, _, _⟩ | ⟨ht, rfl⟩
    · obtain ⟨g1, g2, g3⟩ := layE_some hl;exact ⟨ao, g1, g2, g3⟩
    · exfalso;rcases takeE_spec ht with ⟨q, _⟩ | ⟨_, ⟨_, q, _⟩ | ⟨_, q, _⟩ | ⟨_, _, q, _⟩⟩
      · simp only [Tk.val.injEq] at q; rw [hk] at q; cases q.2
      · simp only [Tk.val.injEq] at q; rw [hk] at q; cases q.2
      · simp only [Tk.val.injEq] at q; rw [hk] at q; cases q.2
      · cases q
  have hold : kd ≠ .new → h1 = h := fun hk => by
    rcases a5 with ⟨vf, ao, _, _, _, q⟩ | ⟨_, q⟩
    · exact absurd q hk
    · exact q
  have hst : St P n0 m m h h1 W W := by
    by_cases hk : kd = .new
    · obtain ⟨ao, g1, g2, g3⟩ := hnew hk;rw [g3]; exact St.ahead I.st.sat g1 g2
    · rw [hold hk]; exact St.refl I.st.sat
  have hget : ∀ (q : Pn) ao, h.get q.id = some ao → m.b q.id = none → h1.get q.id = some ao ∧ m.b q.id = none := fun q ao g1 g2 => hst.ghost _ _ g2 g1;refine ⟨I.st.trans hst, fun i hi => lor1.2 (.inl (I.la i hi)), I.cl, ?_, ?_, b1, ?_, ?_, ?_, ?_, ?_, I.df, I.ini⟩
  · intro y hy;obtain ⟨g1, g2⟩ := I.remsub y ((a3 y).2 (.inr hy));exact ⟨g1, lor0 g2 (b2 y hy)⟩
  · intro y hy;rcases I.remall y hy with g | g
    · exact .inl (lor1.2 (.inl g))
    · rcases (a3 y).1 g with rfl | g
      · exact .inl (lor1.2 (.inr rfl))
      · exact .inr g
  · intro y hy hL;rcases lor1.1 hL with g | g
    · rcases I.qall y hy g with g | ⟨q, hq, e⟩
      · exact .inl g
      · exact .inr ⟨q, by simp [hq], e⟩
    · exact .inr ⟨{ x := x, v := v, kd := kd, id := c }, by simp, (pair_eq rk.nd hy hxR g).symm⟩
  · intro q hq;simp only [List.mem_cons] at hq;rcases hq with rfl | hq
    · refine ⟨hxR, lor1.2 (.inr rfl), fun hl => (by have := I.la _ hl; rw [hxL] at this; cases this), ?_, fun t ht => putT_eq hok ht, fun j hj => lor1.2 (.inl (hbits j hj))⟩;unfold Ev;simp only;rcases a5 with ⟨vf, ao, ht, hl, hv, hk⟩ | ⟨ht, _⟩
      · subst hk;rcases takeE_spec ht with ⟨q, _⟩ | ⟨hw, ⟨_, q, _⟩ | ⟨_, q, _⟩ | ⟨vf2, ao2, q, hn⟩⟩
        · cases q
        · cases q
        · cases q
        · simp only [Tk.new.injEq] at q;obtain ⟨rfl, rfl⟩ := q;obtain ⟨g1, g2, g3⟩ := layE_some hl;refine ⟨by rw [ev2]; exact hw, vf, ao, by rw [newA_congr (ρ' := evalW H T0 x.2.1 T) ev1]; exact hn, hv, by rw [g3, get_set_eq g2], I.st.sat.fresh g1, ?_⟩;cases hh : h0.get c with
          | none => rfl
          | some o => have := I.st.known (i := c) (by rw [hh]; rfl); rw [g1] at this; cases this
      · rcases takeE_spec ht with ⟨q, hw⟩ | ⟨hw, ⟨_, q, hs⟩ | ⟨_, q, hs⟩ | ⟨_, _, q, _⟩⟩
        · simp only [Tk.val.injEq] at q;obtain ⟨rfl, rfl⟩ := q;exact ⟨by rw [ev2]; exact hw, rfl⟩
        · simp only [Tk.val.injEq] at q;obtain ⟨rfl, rfl⟩ := q;rw [hold (by intro e; cases e)];exact ⟨by rw [ev2]; exact hw, by rw [still1_congr (ρ' := evalW H T0 x.2.1 T) ev1]; exact hs⟩
        · simp only [Tk.val.injEq] at q;obtain ⟨rfl, rfl⟩ := q;exact ⟨by rw [ev2]; exact hw, by rw [pureE_congr (ρ' := evalW H T0 x.2.1 T) ev1]; exact hs⟩
        · cases q
    · obtain ⟨q1, q2, q3, q4, q5, q6⟩ := I.qsub q hq;refine ⟨q1, lor1.2 (.inl q2), q3, ?_, fun t ht => ?_, fun j hj => lor1.2 (.inl (q6 j hj))⟩
      · refine q4.keep (rk := rk) q1 hxR (hqn q hq) v (fun hk => ?_) (fun _ ao => hget q ao);by_cases hkn : kd = .new
        · exact againA_spec (hag hkn) _ _ (I.qmem q hq hk)
        · rw [hold hkn, still1_congr (ρ' := evalW H T0 q.x.2.1 T) (eval_put (rk := rk) (T0 := T0) q1 hxR (hqn q hq) T v).1];unfold Ev at q4;simp only [hk] at q4;exact q4.2
      · rw [putT_ne hok (fun e => dst_ne (rk := rk) q1 hxR (hne q hq) ht e)];exact q5 t ht
  · refine List.pairwise_cons.2 ⟨fun q hq k1 k2 e => ?_, I.qid⟩;simp only at k1 e;obtain ⟨ao, g1, _, _⟩ := hnew k1;have q4 := (I.qsub q hq).2.2.2.1;unfold Ev at q4;simp only [k2] at q4;obtain ⟨_, vf, ao2, _, _, e4, _⟩ := q4;rw [← e, g1] at e4;cases e4
  · intro q hq hk;simp only [List.mem_cons] at hq;rcases hq with rfl | hq
    · exact hm hk
    · exact hp _ (I.qmem q hq hk)
  · refine ⟨I.tm.1, fun t ht => ?_⟩;rw [putT_ne hok (fun e => ht ⟨{ x := x, v := v, kd := kd, id := c }, by simp, e⟩)];exact I.tm.2 t fun ⟨q, hq, e⟩ => ht ⟨q, by simp [hq], e⟩
end
section
variable {P : Program} {ops : Array Oper} {n : Nat} {R0 : Rem} {D H : Tr Nat} {T0 : Tr Value}
variable {n0 : Nat} {m0 : Ab} {h0 : Hp} {W0 : World}
theorem RI.after {rk : RK ops n R0 D H} {La : Nat → Prop} {L : Nat} {pend : Pend} {rem : Rem} {T : Tr Value} {ds : List Deferred} {h : Hp} {m : Ab} {W : World} {a : Act} {qs : List Pn}
    (I : RI P ops n R0 H T0 n0 m0 h0 W0 La L pend rem T ds h m W a qs) {x : X3} {r : Rem} (e : soleA L rem = some (x, r)) (hd : Done ops x.2.2 La) {v : Value} {ds' : List Deferred} {h1 : Hp} {m1 : Ab} {W1 : World} {v' : Value} {defers' : List Deferred}
    (hv : VR m1 v v') (hdl : DL m1 ds' defers') (hst : St P n0 m m1 h h1 W W1) (hag : againA P h1 H T0 (putT T x.2.2.dst v) (pruneA x.2.1 pend) = true) :
    RI P ops n R0 H T0 n0 m0 h0 W0 (fun j => La j ∨ j = x.1) (Nat.lor L (Nat.shiftLeft 1 x.1)) (pruneA x.2.1 pend) r (putT T x.2.2.dst v) ds' h1 m1 W1 (({ a with defers := defers' } : Act).put x.2.2.dst v') qs := by
  obtain ⟨a1, a3, a4, a5⟩ := soleA_spec e;obtain ⟨hxR, hxL⟩ := I.remsub x a1;obtain ⟨b1, b2⟩ := a4 I.remnd;have hok := okDst_of (rk := rk) hxR;have hqn : ∀ q ∈ qs, q.x.2.1.testBit x.1 = false := fun q hq => by
    cases hb : q.x.2.1.testBit x.1 with
    | false => rfl
    | true => have := (I.qsub q hq).2.2.2.2.2 _ hb; rw [hxL] at this; cases this
  have hne : ∀ q ∈ qs, q.x.1 ≠ x.1 := fun q hq e => by have := (I.qsub q hq).2.1; rw [e, hxL] at this; cases this
  have hxq : ∀ q ∈ qs, x.2.1.testBit q.x.1 = false := fun q hq => by
    cases hb : x.2.1.testBit q.x.1 with
    | false => rfl
    | true => exact absurd ((rk.rs x hxR).all La I.cl hd _ hb) (I.qsub q hq).2.2.1
  obtain ⟨pd1, pd2⟩ := put_defers a defers' x.2.2.dst v';refine ⟨I.st.trans hst, ?_, I.cl.or (rk.rs x hxR).op hd, ?_, ?_, b1, ?_, ?_, I.qid, ?_, ?_, by rw [pd2]; exact hdl, ?_⟩
  · rintro i (hi | rfl)
    · exact lor1.2 (.inl (I.la i hi))
    · exact lor1.2 (.inr rfl)
  · intro y hy;obtain ⟨g1, g2⟩ := I.remsub y ((a3 y).2 (.inr hy));exact ⟨g1, lor0 g2 (b2 y hy)⟩
  · intro y hy;rcases I.remall y hy with g | g
    · exact .inl (lor1.2 (.inl g))
    · rcases (a3 y).1 g with rfl | g
      · exact .inl (lor1.2 (.inr rfl))
      · exact .inr g
  · intro y hy hL;rcases lor1.1 hL with g | g
    · rcases I.qall y hy g with g | g
      · exact .inl (.inl g)
      · exact .inr g
    · exact .inl (.inr g)
  · intro q hq;obtain ⟨q1, q2, q3, q4, q5, q6⟩ := I.qsub q hq;refine ⟨q1, lor1.2 (.inl q2), fun g => g.elim q3 (hne q hq), ?_, fun t ht => ?_, fun j hj => lor1.2 (.inl (q6 j hj))⟩
    · exact q4.keep (rk := rk) q1 hxR (hqn q hq) v (fun hk => againA_spec hag _ _ (pruneA_mem (I.qmem q hq hk) (hxq q hq))) (fun _ ao g1 g2 => hst.ghost _ _ g2 g1)
    · rw [putT_ne hok (fun e => dst_ne (rk := rk) q1 hxR (hne q hq) ht e)];exact q5 t ht
  · intro q hq hk;exact pruneA_mem (I.qmem q hq hk) (hxq q hq)
  · have := putT_rel (I.tm.mono hst.le) hok hv;rw [TmX, pd1];exact this
  · intro y hy t ht hn;have h1 : ¬ La y.1 := fun g => hn (.inl g);have h2 : y.1 ≠ x.1 := fun g => hn (.inr g);have h3 : (a.put x.2.2.dst v').tmps.getD t undef = a.tmps.getD t undef := by
      cases hd : x.2.2.dst with
      | none => rfl
      | some d =>
        have hne : d ≠ t := fun e2 => dst_ne (rk := rk) hy hxR h2 ht (by rw [hd, e2]);simp [Act.put, Array.getElem?_setIfInBounds_ne hne]
    rw [pd1, h3];exact (I.ini y hy t ht h1).mono hst.le
theorem region_main {O : Memo P} {k : Nat} (hR : RunOK P O k) (hP : named P) (rk : RK ops n R0 D H) {rd : Option Nat} {df : Bool} {b : Frame} (hk : b.kind = kindOf df) (hrd : RdR m0 rd b.roundOf) (td' : List Item) (cs : List Frame)
    (hcs : df = true → rd = none → ∃ c cs', cs = c :: cs' ∧ c.mode = .returning) {T1 : Tr Value} {ds1 : List Deferred} {h1 : Hp} {c1 : Nat} :
    ∀ (N fuel L : Nat) (pend : Pend) (rem : Rem) (T : Tr Value) (ds : List Deferred) (h : Hp) (c : Nat) (π : List Nat) (La : Nat → Prop) (m : Ab) (W : World) (a : Act) (qs : List Pn), fuel + π.length ≤ N →
      RI P ops n R0 H T0 n0 m0 h0 W0 La L pend rem T ds h m W a qs → Vld ops La π → explore P O (run P O k) rd df ops H T0 fuel L pend rem T ds h c = some (T1, ds1, h1, c1) →
      ∃ m' W' a', Steps P (lone (b.atR a (.inRegion ops π :: td')) cs W) (lone (b.atR a' td') cs W') ∧ TmR m' n T1 a'.tmps ∧ DL m' ds1 a'.defers ∧ St P n0 m0 m' h0 h1 W0 W' := by
  intro N
  induction N with
  | zero =>
    intro fuel L pend rem T ds h c π La m W a qs hN I hV e;have : fuel = 0 := by omega
    subst this;simp only [explore] at e;cases e
  | succ N ih =>
    intro fuel L pend rem T ds h c π La m W a qs hN I hV e;have hrd' : RdR m rd b.roundOf := hrd.mono I.st.le;by_cases hq : ∃ i π' q, π = i :: π' ∧ q ∈ qs ∧ q.x.1 = i
    · obtain ⟨i, π', q, rfl, hq, rfl⟩ := hq;cases hV with
      | cons ho hn hd hV' =>
        have hqR := (I.qsub q hq).1;have e2 := (rk.rs q.x hqR).op;rw [ho] at e2;cases e2
        obtain ⟨m', W', v', s1, s2, s3, s4, s5⟩ := I.exec (rk := rk) hrd' hq ((rk.rs q.x hqR).all La I.cl hd) td' cs π';have I' := I.behind (rk := rk) hq hd s2 s3 s4 s5;simp only [List.length_cons] at hN;obtain ⟨m2, W2, a2, t1, t2⟩ := ih fuel L pend rem T ds h c π' _ m' W' _ _ (by omega) I' hV' e;exact ⟨m2, W2, a2, Steps.head s1 t1, t2⟩
    · have head : ∀ i π', π = i :: π' → ∀ y ∈ R0, y.1 = i → y ∈ rem := by
        intro i π' hπ y hy e1;rcases I.remall y hy with g | g
        · subst hπ;cases hV with
          | cons ho hn hd hV' =>
            rcases I.qall y hy g with g | ⟨q, hq', e2⟩
            · rw [e1] at g; exact absurd g hn
            · exact absurd ⟨i, π', q, rfl, hq', by rw [e2]; exact e1⟩ hq
        · exact g
      cases fuel with
      | zero => simp only [explore] at e; cases e
      | succ fuel =>
        simp only [explore] at e;cases hp : pickA P h c ops H T0 T L rem with
        | some z =>
          obtain ⟨⟨xi, xd, xo⟩, v, kd, h2, r⟩ := z;rw [hp] at e;simp only at e;cases kd with
          | mem =>
            simp only at e;exact ih _ _ _ _ _ _ _ _ π La m W a _ (by omega) (I.ahead (rk := rk) hp (fun y hy => by simp [hy]) (fun _ => by simp) (fun q => by cases q)) hV e
          | new =>
            simp only at e;cases hag : againA P h2 H T0 (putT T xo.dst v) pend with
            | false => rw [hag] at e; cases e
            | true =>
              rw [hag] at e;simp only [cond_true] at e;exact ih _ _ _ _ _ _ _ _ π La m W a _ (by omega) (I.ahead (rk := rk) hp (fun y hy => hy) (fun q => by cases q) (fun _ => hag)) hV e
          | skip =>
            simp only at e;exact ih _ _ _ _ _ _ _ _ π La m W a _ (by omega) (I.ahead (rk := rk) hp (fun y hy => hy) (fun q => by cases q) (fun q => by cases q)) hV e
          | pure =>
            simp only at e;exact ih _ _ _ _ _ _ _ _ π La m W a _ (by omega) (I.ahead (rk := rk) hp (fun y hy => hy) (fun q => by cases q) (fun q => by cases q)) hV e
        | none =>
          rw [hp] at e;simp only at e;cases hrem : rem with
          | nil =>
            rw [hrem] at e;simp only [Option.some.injEq, Prod.mk.injEq] at e;obtain ⟨rfl, rfl, rfl, rfl⟩ := e;cases hV with
            | cons ho hn hd hV' =>
              exfalso;obtain ⟨y, hy, e1⟩ := rk.all _ (Array.getElem?_eq_some_iff.1 ho).1;have := head _ _ rfl y hy e1;rw [hrem] at this;simp at this
            | nil hall =>
              have hnoq : qs = [] := by
                cases hqs : qs with
                | nil => rfl
                | cons q l =>
                  exfalso;obtain ⟨g1, _, g3, _⟩ := I.qsub q (by rw [hqs]; simp);exact g3 (hall _ (Array.getElem?_eq_some_iff.1 (rk.rs q.x g1).op).1)
              subst hnoq;refine ⟨m, W, a, .one stepR_region_end, ⟨I.tm.1, fun t _ => I.tm.2 t (by simp)⟩, I.df, I.st⟩
          | cons z zs =>
            rw [hrem] at e;simp only at e;rw [← hrem] at e;cases hs : soleA L rem with
            | none => rw [hs] at e; cases e
            | some w =>
              obtain ⟨⟨xi, xd, xo⟩, r⟩ := w;rw [hs] at e;simp only at e;cases hw : wantedA ops T xo with
              | false => rw [hw] at e; cases e
              | true =>
                rw [hw] at e;simp only [cond_true] at e;split at e
                case h_1 => cases e
                rename_i out hout;split at e
                case h_1 => cases e
                rename_i v ds' h2 c2 hoa;cases hag : againA P h2 H T0 (putT T xo.dst v) (pruneA xd pend) with
                | false => rw [hag] at e; cases e
                | true =>
                  rw [hag] at e;simp only [cond_true] at e;obtain ⟨a1, a3, a4, a5⟩ := soleA_spec hs;obtain ⟨hxR, hxL⟩ := I.remsub _ a1;cases hV with
                  | nil hall =>
                    exfalso;have := I.la _ (hall _ (Array.getElem?_eq_some_iff.1 (rk.rs _ hxR).op).1);rw [hxL] at this;cases this
                  | cons ho hn hd hV' =>
                    rename_i i π' o;obtain ⟨y, hy, e1⟩ := rk.all _ (Array.getElem?_eq_some_iff.1 ho).1;have hyrem := head _ _ rfl y hy e1;have e2 := (rk.rs y hy).op;rw [e1, ho] at e2;simp only [Option.some.injEq] at e2;have hyd : Done ops y.2.2 La := by rw [← e2]; exact hd
                    have hready : Nat.beq (Nat.land y.2.1 L) y.2.1 = true := (land_iff _ _).2 fun j hj => I.la _ ((rk.rs y hy).all La I.cl hyd j hj);have hyx := a5 y hyrem hready;subst hyx;simp only at e1 e2 hyd;subst e1;subst e2;obtain ⟨hops, c2'⟩ := I.clear (rk := rk) hy hn ((rk.rs _ hy).all La I.cl hyd);have hwa := wanted_rel (ops := ops) (o := o) I.tm c2';obtain ⟨m2, W2, v', defers', g1, g2, g3, g4⟩ := op_step hR (rd := rd) (df := df) (ds := ds) I.st.sat hk hrd' I.df (td' := td') (rest := π') ho (by rw [hwa]; exact hw) ((rk.ro _ hy).def_ rd) (opE_ok hP I.st.sat hout hops) hoa cs hcs;have I' := I.after (rk := rk) hs hyd g2 g3 g4 hag;simp only [List.length_cons] at hN;obtain ⟨m3, W3, a3', t1, t2⟩ := ih _ _ _ _ _ _ _ _ π' _ m2 W2 _ _ (by omega) I' hV' e;exact ⟨m3, W3, a3', g1.trans t1, t2⟩
end
theorem region_ok {P : Program} {O : Memo P} {k : Nat} (hR : RunOK P O k) (hP : named P) (hM : P.follows .mixedOrders = true) {n0 : Nat} {m : Ab} {h : Hp} {W : World} (s : Sat P n0 m h W) {n : Nat} {rd : Option Nat} {df : Bool} {T : Tr Value} {ds : List Deferred} {b : Frame} {a : Act} (hk : b.kind = kindOf df) (hrd : RdR m rd b.roundOf)
    (htm : TmR m n T a.tmps) (hds : DL m ds a.defers) {ops : Array Oper} {id : Nat} {td' : List Item} {T1 : Tr Value} {ds1 : List Deferred} {h1 : Hp} {c c1 : Nat} (e : regionA P O (run P O k) n rd df ops T ds h c = some (T1, ds1, h1, c1)) (cs : List Frame) (hcs : df = true → rd = none → ∃ c cs', cs = c :: cs' ∧ c.mode = .returning) :
    ∃ m' W' a', Steps P (lone (b.atR a (.code (.region id ops true) :: td')) cs W) (lone (b.atR a' td') cs W') ∧ TmR m' n T1 a'.tmps ∧ DL m' ds1 a'.defers ∧ St P n0 m m' h h1 W W' := by
  unfold regionA at e;simp only [regionB] at e;split at e
  case h_1 => cases e
  rename_i D hD;cases hg : regA D (hazR D (remA .e 0 ops.toList)) (remA .e 0 ops.toList) (remA .e 0 ops.toList) && Nat.ble ops.toList.length 1000000 with
  | false => rw [hg] at e; cases e
  | true =>
    rw [hg] at e;simp only [cond_true] at e;simp only [Bool.and_eq_true] at hg;obtain ⟨hg, hsz⟩ := hg;have hsz := Nat.le_of_ble_eq_true hsz;obtain ⟨r1, r2, r3⟩ := remA_spec ops ops.toList 0 .e (fun k o hk => by rw [Nat.zero_add, ← Array.getElem?_toList]; exact hk) (fun q dq hq => by cases hq) (by omega);have rk : RK ops n (remA .e 0 ops.toList) D (hazR D (remA .e 0 ops.toList)) := ⟨fun x hx => (r1 x hx).1, r2, fun i hi => by obtain ⟨x, hx, e⟩ := r3 i (by simpa using hi); exact ⟨x, hx, by omega⟩, dstA_spec hD, dstA_conv hD, hazR_spec, regA_spec hg⟩;have hlt : ∀ i o, ops[i]? = some o → ∀ e ∈ o.after, Region.binds .any e = true → e.on < i := by
      intro i o ho e he hb;obtain ⟨x, hx, e1⟩ := rk.all i (Array.getElem?_eq_some_iff.1 ho).1;have e2 := (rk.rs x hx).op;rw [e1, ho] at e2;simp only [Option.some.injEq] at e2;rw [← e1];exact (rk.ro x hx).lt e (by rw [← e2]; exact he) hb
    have I : RI P ops n (remA .e 0 ops.toList) (hazR D (remA .e 0 ops.toList)) T n0 m h W (fun _ => False) 0 [] (remA .e 0 ops.toList) T ds h m { W with drawn := W.drawn + 1 } a [] := by
      refine ⟨St.drew s, fun i hi => hi.elim, fun j o hj => hj.elim, fun x hx => ⟨hx, Nat.zero_testBit _⟩, fun x hx => .inr hx, r2, fun x hx hL => ?_, fun q hq => by simp at hq, .nil, fun q hq => by simp at hq, ⟨htm.1, fun t _ => htm.2 t (fun f => f)⟩, hds, fun _ _ t _ _ => htm.2 t (fun f => f)⟩;rw [Nat.zero_testBit] at hL; cases hL
    obtain ⟨m', W', a', s1, s2⟩ := region_main hR hP rk hk hrd td' cs hcs _ _ _ _ _ _ _ _ _ _ _ m _ a [] (Nat.le_refl _) I (sched_vld hlt (W.tape W.drawn (.order b.fn id))) e;refine ⟨m', W', a', Steps.head ?_ s1, s2⟩;have := stepR_region_draw (P := P) (b := b) (a := a) (k := td') (cs := cs) (w := W) (ops := ops) (id := id);rw [hM] at this;exact this
section
variable {P : Program} {n0 : Nat} {m : Ab} {h : Hp} {W : World}
theorem getLoopA_ok (s : Sat P n0 m h W) {l l' : Nat} (hl : m.b l = some l') {r : Loop} (e : getLoopA h l = some r) : h.get l = some (.loop r) ∧ ∃ r', W.heap[l']? = some (.loop r') ∧ LR m r r' ∧ (Instr.getLoop l').run P W = .ok r' W := by
  unfold getLoopA at e;split at e
  case h_2 => cases e
  rename_i r0 hg;simp only [Option.some.injEq] at e;subst e;obtain ⟨ob, h2, h3⟩ := s.has l l' _ hl hg;cases h3 with
  | loop hr => exact ⟨hg, _, h2, hr, by simp [Instr.getLoop, getObj, Sem.run, h2]⟩
theorem setLoop_ok (s : Sat P n0 m h W) {l l' : Nat} (hl : m.b l = some l') {r0 r : Loop} {r' : Loop} {ob : Obj} (hg : h.get l = some (.loop r0)) (hw : W.heap[l']? = some ob) (hr : LR m r r') {h' : Hp} (e : setLoopA h l r = some h') (hob : ∀ c t f, ob ≠ .cells c t f) :
    (setObj l' (.loop r')).run P W = .ok () { W with heap := W.heap.setIfInBounds l' (.loop r') } ∧ St P n0 m m h h' W { W with heap := W.heap.setIfInBounds l' (.loop r') } := by
  unfold setLoopA at e;cases hs : small64 l with
  | false => rw [hs] at e; cases e
  | true =>
    rw [hs] at e;simp only [cond_true, Option.some.injEq] at e;subst e;refine ⟨?_, St.put s ⟨_, hg, rfl⟩ hl (small64_lt hs) (.loop hr) ?_ (fun k hk => ?_) (by simp) rfl rfl rfl⟩
    · cases ob <;> first | (simp only [setObj, Sem.run, hw]; done) | exact absurd rfl (hob _ _ _)
    · show (W.heap.setIfInBounds l' _)[l']? = _
      rw [Array.getElem?_setIfInBounds_self, if_pos (heap_lt hw)]
    · show (W.heap.setIfInBounds l' _)[k]? = _
      rw [Array.getElem?_setIfInBounds_ne (Ne.symm hk)]
theorem endRound_ok (s : Sat P n0 m h W) {l l' : Nat} (hl : m.b l = some l') {jump : Option Code} {h' : Hp} (e : endRoundA h l jump = some h') :
    ∃ W', (Instr.endRound l' jump).run P W = .ok (.bool jump.isNone) W' ∧ St P n0 m m h h' W W' := by
  unfold endRoundA at e;split at e
  case h_2 => cases e
  rename_i r hr;obtain ⟨hg, r', hw, hlr, hrun⟩ := getLoopA_ok s hl hr
  have hlr' : LR m { r with state := stOf jump, pending := jump } { r' with state := if jump.isNone then .ready else .done, pending := jump } :=
    ⟨by cases jump <;> rfl, rfl, hlr.fn, hlr.tmps, hlr.params, hlr.assign, hlr.body, hlr.defers⟩
  obtain ⟨g1, g2⟩ := setLoop_ok s hl hg hw hlr' e (fun c t f => by simp);exact ⟨_, by simp only [Instr.endRound, Sem.run_bind, hrun, Result.andThen_ok, g1, Sem.run_pure], g2⟩
theorem valsE_ok (s : Sat P n0 m h W) {T : Tr Value} {n : Nat} {tmps : Array Value} (ht : TmR m n T tmps) : ∀ {l : List ResultVar} {vs : List Value}, valsE T P h l = some vs →
    ∃ vs', VL m vs vs' ∧ (l.mapM (fun r : ResultVar => (match r with | .tmp t => pure (tmps.getD t undef) | .cell a t => do loadVar t (← asAddr (tmps.getD a undef)) : Sem Value))).run P W = .ok vs' W
  | [], vs, e => by simp only [valsE, Option.some.injEq] at e; subst e; exact ⟨[], .nil m, rfl⟩
  | .tmp t :: l, vs, e => by
    simp only [valsE] at e;split at e
    case h_2 => cases e
    rename_i r hr;simp only [Option.some.injEq] at e;subst e;obtain ⟨vs', h1, h2⟩ := valsE_ok s ht hr;exact ⟨_, .cons (ht.2 t (fun f => f)) h1, by simp only [List.mapM_cons, Sem.run_bind, Sem.run_pure, Result.andThen_ok, h2]⟩
  | .cell a t :: l, vs, e => by
    simp only [valsE] at e;split at e
    case h_2 => cases e
    rename_i v r hv hr;simp only [Option.some.injEq] at e;subst e;obtain ⟨vs', h1, h2⟩ := valsE_ok s ht hr;have hp := ht.2 a (fun f => f);obtain ⟨v', g1, g2⟩ := loadVar_ok s hv hp;refine ⟨v' :: vs', .cons g1 h1, ?_⟩;have : (do loadVar t (← asAddr (tmps.getD a undef)) : Sem Value).run P W = .ok v' W := by
      generalize valAt T a = p at hp hv;generalize tmps.getD a undef = q at hp g2 ⊢;unfold loadE at hv;split at hv
      case h_2 => cases hv
      cases hp with
      | ptr hq => simpa [Instr.loadAt, Instr.sureAddr, asAddr] using g2
    simp only [List.mapM_cons, Sem.run_bind] at this ⊢;rw [← Sem.run_bind] at this;simp only [Sem.run_bind] at this;rw [this];simp only [Result.andThen_ok, h2, Sem.run_pure]
theorem resE_ok (s : Sat P n0 m h W) {T : Tr Value} {n : Nat} {tmps : Array Value} (ht : TmR m n T tmps) {f : FuncId} {v : Value} (e : resE P h f T = some v) : ∃ F v', P.funcs[f]? = some F ∧ VR m v v' ∧ (results F tmps).run P W = .ok v' W := by
  unfold resE at e;split at e
  case h_1 => cases e
  rename_i F hF;have key : ∀ vs, valsE T P h F.results.toList = some vs → ∃ vs' : List Value, VL m vs vs' ∧ (results F tmps).run P W = .ok (if hh : vs'.toArray.size = 1 then vs'.toArray[0] else .tuple vs'.toArray) W := by
    intro vs hv;obtain ⟨vs', g1, g2⟩ := valsE_ok s ht hv;refine ⟨vs', g1, ?_⟩;unfold results;rw [Array.mapM_eq_mapM_toList];have g3 : (List.toArray <$> F.results.toList.mapM (fun x : ResultVar => (match x with | .tmp t => pure (tmps.getD t undef) | .cell a t => do loadVar t (← asAddr (tmps.getD a undef)) : Sem Value))).run P W = .ok vs'.toArray W := by
      rw [Sem.run_map, g2]; rfl
    rw [Sem.run_bind];refine (congrArg (fun r => Result.andThen r _) g3).trans ?_;rfl
  split at e
  case h_1 v0 hv =>
    simp only [Option.some.injEq] at e;subst e;obtain ⟨vs', g1, g2⟩ := key _ hv;cases vs' with
    | nil => exact absurd g1.1 (by simp)
    | cons x l =>
      cases l with
      | cons _ _ => exact absurd g1.1 (by simp)
      | nil => exact ⟨F, x, hF, by have := g1.2 0; simpa using this, by simpa using g2⟩
  case h_2 l hne hv =>
    simp only [Option.some.injEq] at e;subst e;obtain ⟨vs', g1, g2⟩ := key _ hv;refine ⟨F, .tuple vs'.toArray, hF, .of_tup (by simpa using g1), ?_⟩;rw [g2];have : ¬ vs'.length = 1 := fun q => by
      have hl : l.length = 1 := by rw [g1.1]; exact q
      cases l with
      | nil => simp at hl
      | cons x l =>
        cases l with
        | nil => exact hne x rfl
        | cons _ _ => simp at hl
    simp [this]
  case h_3 => cases e
end
theorem rowOf_eq (T : Tr Value) : ∀ (n : Nat) (l : List Value), rowOf T n l = (List.range n).map (valAt T) ++ l
  | 0, l => rfl
  | n + 1, l => by simp [rowOf, rowOf_eq T n, List.range_succ]
theorem rowOf_vr {m : Ab} {n : Nat} {T : Tr Value} {a : Array Value} (h : TmR m n T a) : VRs m ⟨rowOf T n []⟩ a := by
  refine VL.arr (.of (by simp [rowOf_eq, h.1]) fun i v v' hv hv' => ?_);simp only [rowOf_eq, List.append_nil, List.getElem?_map] at hv;have hi : i < n := by have := (List.getElem?_eq_some_iff.1 hv').1; simpa [h.1] using this
  rw [List.getElem?_range hi] at hv;simp only [Option.map_some, Option.some.injEq] at hv;have := h.2 i (fun f => f);rw [agetD, lgetD_some hv'] at this;rw [← hv]; exact this
theorem FR.round_none {m : Ab} {f n : Nat} {df : Bool} {T : Tr Value} {ds : List Deferred} {b : Frame} {a : Act} (h : FR m f n none df T ds b a) : b.roundOf = none := round_eq h.round rfl
theorem FR.round_some {m : Ab} {f n l : Nat} {df : Bool} {T : Tr Value} {ds : List Deferred} {b : Frame} {a : Act} (h : FR m f n (some l) df T ds b a) : ∃ l', b.roundOf = some l' ∧ m.b l = some l' := by
  have := h.round;cases hb : b.roundOf with
  | none => rw [hb] at this; exact this.elim
  | some l' => rw [hb] at this; exact ⟨l', rfl, this⟩
theorem FR.defs {m : Ab} {f n : Nat} {rd : Option Nat} {df : Bool} {T : Tr Value} {ds ds' : List Deferred} {b : Frame} {a : Act} {d' : List Deferred} (h : FR m f n rd df T ds b a) (hd : DL m ds' d') : FR m f n rd df T ds' b { a with defers := d' } :=
  ⟨h.fn, h.kind, h.round, h.tmps, hd⟩
theorem FR.to {m m' : Ab} {f n : Nat} {rd : Option Nat} {df : Bool} {T T' : Tr Value} {ds ds' : List Deferred} {b : Frame} {a a' : Act} (h : FR m f n rd df T ds b a) (hl : m.le m') (ht : TmR m' n T' a'.tmps) (hd : DL m' ds' a'.defers) : FR m' f n rd df T' ds' b a' :=
  ⟨h.fn, h.kind, h.round.mono hl, ht, hd⟩
theorem FinAt.given {P : Program} {rd : Option Nat} {df : Bool} {f : Nat} {cs : List Frame} {fr : Frame} {W : World} {R : Value → World → Prop} (h : (df = true → rd = none → ∃ c cs', cs = c :: cs' ∧ c.mode = .returning) → FinAt P rd df f cs fr W R) : FinAt P rd df f cs fr W R := by
  cases rd with
  | some l => exact h fun _ e => by cases e
  | none =>
    cases df with
    | false => exact h fun e => by cases e
    | true =>
      intro c cs' e hc;exact h (fun _ _ => ⟨c, cs', e, hc⟩) c cs' e hc
section
variable {P : Program} {O : Memo P} {k : Nat}
theorem go1 (hR : RunOK P O k) {f n : Nat} {rd : Option Nat} {df back back' : Bool} {T' : Tr Value} {ds' : List Deferred} {td2 : List Item} {h h2 : Hp} {c2 : Nat} {v : Value} {h' : Hp} {c' : Nat} (e : run P O k ⟨f, n, rd, df, back', T', ds', td2⟩ h2 c2 = some (v, h', c'))
    {n0 : Nat} {m m2 : Ab} {W W2 : World} {b : Frame} {a a2 : Act} {k1 k2 : List Item} {cs : List Frame} (hs : Steps P (lone (frm b a k1 back) cs W) (lone (frm b a2 k2 back') cs W2)) (st : St P n0 m m2 h h2 W W2) (hfr : FR m2 f n rd df T' ds' b a2) (hil : IL m2 td2 k2) :
    FinAt P rd df f cs (frm b a k1 back) W (fun v' W' => ∃ m', VR m' v v' ∧ St P n0 m m' h h' W W') :=
  FinAt.steps hs (fun _ _ ⟨m', g1, g2⟩ => ⟨m', g1, st.trans g2⟩) (hR _ _ _ _ _ _ _ _ _ _ _ _ _ e n0 m2 W2 b a2 k2 cs st.sat hfr hil)
theorem goRound {f : Nat} {l : Nat} {n0 : Nat} {m : Ab} {h : Hp} {W : World} {b : Frame} {a : Act} {k1 : List Item} {cs : List Frame} (s : Sat P n0 m h W) {l' : Nat} (hl : m.b l = some l') {jump : Option Code} {h' : Hp} (e : endRoundA h l jump = some h')
    (hst : ∀ (c : Frame) (cs' : List Frame) (v : Value) (W' : World), (Instr.endRound l' jump).run P W = .ok v W' → step P (lone (b.atR a k1) (c :: cs') W) = .next (lone (c.finish v) cs' W')) {df : Bool} :
    FinAt P (some l) df f cs (frm b a k1 false) W (fun v' W' => ∃ m', VR m' (.bool jump.isNone) v' ∧ St P n0 m m' h h' W W') := by
  intro c cs' ec;subst ec;obtain ⟨W', g1, g2⟩ := endRound_ok s hl e;exact ⟨.bool jump.isNone, W', ⟨m, .bool _, g2⟩, .one (hst c cs' _ _ g1)⟩
theorem enter_inv (hP : named P) {m : Ab} {h : Hp} {W : World} {a : Act} {fo : Operand} {f : Value} {l l' : Nat} {g : FuncId} {args : Array Value} (e : enterE P h f #[.func (.yield l) #[] #[]] = some (.enter g args)) (hf : VR m f (a.eval fo)) (hl : m.b l = some l') :
    ∃ d args', (resolve a.eval (rangeCall fo l') 0).run P W = .ok d W ∧ (invoke d.target d.args).run P W = .ok (.enter g args') W ∧ VRs m args args' := by
  unfold enterE at e;split at e
  case h_3 => cases e
  case h_2 l0 a b =>
    split at e
    case h_2 => cases e
    rename_i L hL;cases hb : Nat.beq (#[Value.func (.yield l) #[] #[]] : Array Value).toList.length L.params.toList.length with
    | false => rw [hb] at e; cases e
    | true => rw [hb] at e; simp only [cond_true, Option.some.injEq] at e; cases e
  case h_1 g' first captured =>
    split at e
    case h_2 => cases e
    rename_i F hF;simp only [Option.some.injEq, Out.enter.injEq] at e;obtain ⟨rfl, rfl⟩ := e;generalize hq : a.eval fo = q at hf;cases hf with
    | func _ h1 h2 h3 h4 =>
      rename_i first' captured';refine ⟨{ target := .fn (.func g') captured', args := first' ++ #[.func (.yield l') #[] #[]] }, first' ++ #[.func (.yield l') #[] #[]] ++ captured', ?_, ?_, ?_⟩
      · simp only [resolve, hq, Deferred.ofValue, Sem.run_pure];simp [Act.eval]
      · simp only [invoke, rCall hP hF]
      · have ha : VRs m #[Value.func (.yield l) #[] #[]] #[Value.func (.yield l') #[] #[]] := VL.arr (.cons (.yield hl) (.nil m));have := arr_append (arr_append ⟨h1, h2⟩ ha) ⟨h3, h4⟩;refine VL.arr ?_;have := this.list;simpa using this
end
theorem run_ok {P : Program} {O : Memo P} (hP : named P) (hM : P.follows .mixedOrders = true) : ∀ k, RunOK P O k := by
  intro k
  induction k with
  | zero =>
    intro f n rd df back T ds td h c v h' c' e;simp only [run] at e;cases e
  | succ k hR =>
    intro f n rd df back T ds td h c v h' c' e n0 m W b a td' cs s fr il;cases back with
    | true =>
      simp only [run] at e;cases hds : ds with
      | nil =>
        subst hds;have had : a.defers = [] := by have := fr.defers; cases hh : a.defers with | nil => rfl | cons _ _ => rw [hh] at this; cases this
        simp only at e;split at e
        case h_2 => cases e
        split at e
        case h_2 => cases e
        rename_i v0 hv;simp only [Option.some.injEq, Prod.mk.injEq] at e;obtain ⟨rfl, rfl, rfl⟩ := e;obtain ⟨F, v', hF, hr, hres⟩ := resE_ok s fr.tmps hv;cases df with
        | false =>
          refine ⟨v', W, frm b a td' true, ⟨m, hr, St.refl s⟩, .refl _ _, fr.fn, rfl, had, fr.kind, F, ?_, hres⟩;show P.funcs[b.fn]? = some F
          rw [fr.fn]; exact hF
        | true =>
          intro cl cs' ecs hc;subst ecs;refine ⟨v', W, ⟨m, hr, St.refl s⟩, .one ?_⟩;have := step_going_returned (P := P) (fr := frm b a td' true) (c := cl) (cs := cs') (w := W) (v := v') fr.kind ⟨rfl, had, F, (by show P.funcs[b.fn]? = some F; rw [fr.fn]; exact hF), hres⟩;rw [this];have e2 : settle cl.mode = cl.mode := by rw [hc]; rfl
          rw [e2]
      | cons d ds2 =>
        subst hds;have hdl := fr.defers;generalize hda : a.defers = ad at hdl;cases hdl with
        | cons hd hdl2 =>
          rename_i d' ds2';simp only at e;split at e
          case h_3 => cases e
          case h_1 r htg =>
            split at e
            case h_2 => cases e
            rename_i calls hg;cases hs : small64 r with
            | false => rw [hs] at e; cases e
            | true =>
              rw [hs] at e;simp only [cond_true] at e;have hdt := hd.target;rw [htg] at hdt;generalize hdt' : d'.target = t' at hdt;cases hdt with
              | collected hr =>
                rename_i r';obtain ⟨ob, g1, g2⟩ := s.has r r' _ hr hg;cases g2 with
                | defd hcl =>
                  rename_i calls';have st := St.put (W' := { W with heap := W.heap.setIfInBounds r' (.deferred none) }) s ⟨_, hg, rfl⟩ hr (small64_lt hs) (o := .defd none) (ob := .deferred none) .defd0 (by
                    show (W.heap.setIfInBounds r' _)[r']? = _
                    rw [Array.getElem?_setIfInBounds_self, if_pos (heap_lt g1)]) (fun k hk => by
                    show (W.heap.setIfInBounds r' _)[k]? = _
                    rw [Array.getElem?_setIfInBounds_ne (Ne.symm hk)]) (by simp) rfl rfl rfl
                  have htake : (Instr.takeDeferred r').run P W = .ok calls' { W with heap := W.heap.setIfInBounds r' (.deferred none) } := by
                    simp [Instr.takeDeferred, getObj, setObj, Sem.run, g1]
                  have happ : DL m (calls ++ ds2) (calls' ++ ds2') := by
                    clear e hg g1 htake
                    induction hcl with
                    | nil => exact hdl2
                    | cons h1 _ ih => exact .cons h1 ih
                  refine go1 hR e (a2 := { a with defers := calls' ++ ds2' }) (k2 := td') (.one ?_) st (fr.defs happ) il;have := step_collected (P := P) (fr := frm b a td' true) (cs := cs) (w := W) (d := d') (ds := ds2') (by simp [frm]) (by show a.defers = _; exact hda) hdt' htake;rw [this];rfl
          case h_2 g cap htg =>
            split at e
            case h_2 => cases e
            rename_i F hF;split at e
            case h_2 => cases e
            rename_i y hy;split at e
            case h_2 => cases e
            rename_i v1 h1 c1 hr1;have hdt := hd.target;rw [htg] at hdt;generalize hdt' : d'.target = t' at hdt;cases hdt with
            | fn _ hcap =>
              rename_i cap';have hargs : VL m (d.args.toList ++ cap.toList) (d'.args ++ cap').toList := by
                rw [Array.toList_append]; exact hd.args.list.append hcap.list
              obtain ⟨body, b2, a2, _, rfl, hen, hfr⟩ := enter_frm (df := true) (fnE_some hF) hy hargs;have fin := hR _ _ _ _ _ _ _ _ _ _ _ _ _ hr1 n0 m W b2 a2 [.code body] (frm b { a with defers := ds2' } td' true :: cs) s hfr (.cons (.code body) .nil);obtain ⟨v2, W1, ⟨m1, _, st1⟩, hsteps⟩ := fin _ _ rfl rfl;refine go1 hR e (a2 := { a with defers := ds2' }) (k2 := td') (Steps.head ?_ hsteps) st1 ((fr.defs hdl2).mono st1.le) (il.mono st1.le);have := step_defer (P := P) (fr := frm b a td' true) (cs := cs) (w := W) (d := d') (ds := ds2') (fv := .func g) (cap := cap') (f := g) (args := d'.args ++ cap') (by simp [frm]) (by show a.defers = _; exact hda) hdt' (by rw [hdt']; simp only [invoke, rCall hP hF]);rw [this];have hen' : Frame.enter P g (d'.args ++ cap') .deferred = frm b2 a2 [.code body] false := hen;rw [hen'];rfl
    | false =>
      simp only [run] at e;cases il with
      | nil =>
        simp only at e;cases hrd : rd with
        | none =>
          subst hrd;simp only at e;exact go1 hR e (a2 := a) (k2 := []) (.one (stepR_end fr.round_none)) (St.refl s) fr .nil
        | some l =>
          subst hrd;simp only at e;split at e
          case h_2 => cases e
          rename_i h2 he;simp only [Option.some.injEq, Prod.mk.injEq] at e;obtain ⟨rfl, rfl, rfl⟩ := e;obtain ⟨l', hb, hl⟩ := fr.round_some;exact goRound s hl he fun c cs' v W' hr => stepR_round_end hb fr.kind hr
      | cons hi il =>
        rename_i i i' tl tl';cases hi with
        | inBlock id =>
          simp only at e;exact go1 hR e (a2 := a) (.one stepR_inBlock) (St.refl s) fr il
        | inScope cd =>
          simp only at e;refine go1 hR e (a2 := a) (.one ?_) (St.refl s) fr il;exact step_lone_go (by simp [frm, stepG, stepG.exec, Frame.atR])
        | inLoop cd =>
          simp only at e;exact go1 hR e (a2 := a) (.one stepR_inLoop) (St.refl s) fr (.cons (.code cd) (.cons (.inLoop cd) il))
        | beginRound =>
          simp only at e;split at e
          case h_1 => cases e
          rename_i l;split at e
          case h_1 => cases e
          rename_i r hr;split at e
          case h_2 => cases e
          rename_i hst;split at e
          case h_2 => cases e
          rename_i h2 hset;obtain ⟨l', hb, hl⟩ := fr.round_some;obtain ⟨hg, r', hw, hlr, hrun⟩ := getLoopA_ok s hl hr;have hlr' : LR m { r with state := .busy } { r' with state := .busy } := ⟨rfl, hlr.pending, hlr.fn, hlr.tmps, hlr.params, hlr.assign, hlr.body, hlr.defers⟩;obtain ⟨g1, g2⟩ := setLoop_ok s hl hg hw hlr' hset (fun c t f => by simp);refine go1 hR e (a2 := a) (.one (stepR_beginRound (k := tl') hb ?_)) g2 (fr.mono g2.le) (il.mono g2.le);have hs' : r'.state = .ready := by rw [hlr.state, hst]
          simp only [Instr.beginRound, Sem.run_bind, hrun, Result.andThen_ok, g1, hs', Sem.run_pure]
        | endRangeFunc hl =>
          rename_i l l';simp only at e;split at e
          case h_1 => cases e
          rename_i r hr;split at e
          case h_1 => cases e
          rename_i hst;split at e
          case h_2 => cases e
          rename_i h2 hset;obtain ⟨hg, r', hw, hlr, hrun⟩ := getLoopA_ok s hl hr;have hlr' : LR m { r with state := .exhausted } { r' with state := .exhausted } := ⟨rfl, hlr.pending, hlr.fn, hlr.tmps, hlr.params, hlr.assign, hlr.body, hlr.defers⟩;obtain ⟨g1, g2⟩ := setLoop_ok s hl hg hw hlr' hset (fun c t f => by simp);have hs' : (r'.state == .busy) = false := by
            rw [hlr.state];cases hss : r.state <;> first | rfl | exact absurd hss (by first | exact hst | (intro q; exact hst q))
          have hend : (Instr.endLoop l').run P W = .ok r.pending { W with heap := W.heap.setIfInBounds l' (.loop { r' with state := .exhausted }) } := by
            simp only [Instr.endLoop, Sem.run_bind, hrun, Result.andThen_ok, hs', Bool.false_eq_true, if_false, g1, Sem.run_pure];rw [hlr.pending]
          refine go1 hR e (a2 := a) (.one (stepR_endRangeFunc (k := tl') hend)) g2 (fr.mono g2.le) ?_;cases r.pending with
          | none => exact il.mono g2.le
          | some cd => exact .cons (.code cd) (il.mono g2.le)
        | inRegion ops l =>
          cases l with
          | nil =>
            simp only at e;exact go1 hR e (a2 := a) (.one stepR_region_end) (St.refl s) fr il
          | cons i r =>
            simp only at e;split at e
            case h_1 => cases e
            rename_i o ho;cases hok : okDst n o.dst with
            | false => rw [hok] at e; cases e
            | true =>
              rw [hok] at e;simp only [cond_true] at e;have hwa := wanted_rel (ops := ops) (o := o) fr.tmps (fun _ _ _ _ _ f => f);split at e
              case h_1 hw =>
                have ht := putT_rel fr.tmps hok (v := undef) (v' := undef) .undef;refine go1 hR e (a2 := a.put o.dst undef) (k2 := .inRegion ops r :: tl') (.one ?_) (St.refl s) (fr.to m.le_refl ht ?_) (.cons (.inRegion ops r) il)
                · have e2 : (ops[i]?).bind (·.dst) = o.dst := by rw [ho]; rfl
                  rw [← e2];exact stepR_op_skip (by rw [ho]; simp only [Option.map_some, Option.getD_some]; rw [hwa]; exact hw)
                · have : (a.put o.dst undef).defers = a.defers := by cases o.dst <;> rfl
                  rw [this]; exact fr.defers
              case h_2 hw =>
                cases hoo : (okOp o.op && noDef rd o.op) with
                | false => rw [hoo] at e; cases e
                | true =>
                  rw [hoo] at e;simp only [cond_true] at e;simp only [Bool.and_eq_true] at hoo;split at e
                  case h_1 => cases e
                  rename_i out hout;split at e
                  case h_1 => cases e
                  rename_i v1 ds1 h1 c1 hoa;refine FinAt.given fun hcs => ?_;have hops : Ops m (evalA T) a.eval o.op := okOp_ops fr.tmps hoo.1 (fun _ _ f => f);obtain ⟨m1, W1, v', defers', g1, g2, g3, g4⟩ := op_step hR s fr.kind fr.round fr.defers (td' := tl') (rest := r) ho (by rw [hwa]; exact hw) hoo.2 (opE_ok hP s hout hops) hoa cs hcs;obtain ⟨pd1, pd2⟩ := put_defers a defers' o.dst v';have ht := putT_rel (fr.tmps.mono g4.le) hok g2;exact go1 hR e g1 g4 (fr.to g4.le (by rw [TmR, TmX, pd1]; exact ht) (by rw [pd2]; exact g3)) (.cons (.inRegion ops r) (il.mono g4.le))
        | code cd =>
          cases cd with
          | skip => simp only at e; exact go1 hR e (a2 := a) (.one stepR_skip) (St.refl s) fr il
          | label l => simp only at e; exact go1 hR e (a2 := a) (.one stepR_label) (St.refl s) fr il
          | seq x y => simp only at e; exact go1 hR e (a2 := a) (.one stepR_seq) (St.refl s) fr (.cons (.code x) (.cons (.code y) il))
          | block id x => simp only at e; exact go1 hR e (a2 := a) (.one stepR_block) (St.refl s) fr (.cons (.code x) (.cons (.inBlock id) il))
          | loop x => simp only at e; exact go1 hR e (a2 := a) (.one stepR_loop) (St.refl s) fr (.cons (.code x) (.cons (.inLoop x) il))
          | scope x =>
            simp only at e;refine go1 hR e (a2 := a) (k2 := .code x :: .inScope x :: tl') (.one ?_) (St.refl s) fr (.cons (.code x) (.cons (.inScope x) il));exact step_lone_go (by simp [frm, stepG, stepG.exec, Frame.atR])
          | refuse w => simp only at e; cases e
          | cond x y z =>
            simp only at e;split at e
            case h_2 => cases e
            rename_i t hx ht;have hv := okO_vr fr.tmps hx (fun _ _ f => f);rw [ht] at hv;have hv' : a.eval x = .bool t := by generalize a.eval x = q at hv; cases hv; rfl
            refine go1 hR e (a2 := a) (.one (stepR_cond hv')) (St.refl s) fr ?_;cases t
            · exact .cons (.code z) il
            · exact .cons (.code y) il
          | exit id =>
            simp only at e;obtain ⟨ex1, ex2⟩ := exitTo_rel (id := id) il;split at e
            case h_1 td2 hx =>
              obtain ⟨r', hr', hil⟩ := ex1 _ hx;exact go1 hR e (a2 := a) (.one (stepR_exit hr')) (St.refl s) fr hil
            case h_2 hx =>
              split at e
              case h_1 => cases e
              rename_i l;split at e
              case h_2 => cases e
              rename_i h2 he;simp only [Option.some.injEq, Prod.mk.injEq] at e;obtain ⟨rfl, rfl, rfl⟩ := e;obtain ⟨l', hb, hl⟩ := fr.round_some;exact goRound s hl he fun c cs' v W' hr => stepR_round_exit hb fr.kind (ex2 hx) hr
          | goto l =>
            simp only at e;split at e
            case h_2 => cases e
            rename_i td2 hx;obtain ⟨r', hr', hil⟩ := gotoIn_rel il _ hx;exact go1 hR e (a2 := a) (.one (stepR_goto hr')) (St.refl s) fr hil
          | ret =>
            simp only at e;cases hrd : rd with
            | none =>
              subst hrd;simp only at e;exact go1 hR e (a2 := a) (k2 := .code .ret :: tl') (.one (stepR_ret fr.round_none)) (St.refl s) fr (.cons (.code .ret) il)
            | some l =>
              subst hrd;simp only at e;split at e
              case h_2 => cases e
              rename_i h2 he;simp only [Option.some.injEq, Prod.mk.injEq] at e;obtain ⟨rfl, rfl, rfl⟩ := e;obtain ⟨l', hb, hl⟩ := fr.round_some;exact goRound s hl he fun c cs' v W' hr => stepR_round_ret hb fr.kind hr
          | region id ops draw =>
            cases draw with
            | false => simp only at e; exact go1 hR e (a2 := a) (.one stepR_region) (St.refl s) fr (.cons (.inRegion ops _) il)
            | true =>
              simp only at e;split at e
              case h_2 => cases e
              rename_i T1 ds1 h1 c1 hreg;refine FinAt.given fun hcs => ?_;obtain ⟨m1, W1, a1, g1, g2, g3, g4⟩ := region_ok hR hP hM s fr.kind fr.round fr.tmps fr.defers (id := id) (td' := tl') hreg cs hcs;exact go1 hR e g1 g4 (fr.to g4.le g2 g3) (il.mono g4.le)
          | rangeFunc fo params assign body =>
            simp only at e;split at e
            case h_3 => cases e
            case h_1 hx =>
              split at e
              case h_2 => cases e
              rename_i h1 hl1;split at e
              case h_2 => cases e
              rename_i h2 hl2;split at e
              case h_2 => cases e
              rename_i g args hen;split at e
              case h_2 => cases e
              rename_i v3 ds3 h3 c3 hoa;obtain ⟨k1, k2, rfl⟩ := layE_some hl1;obtain ⟨k3, k4, rfl⟩ := layE_some hl2;have hb := fr.round_none;have st1 := St.new (ob := .deferred (some [])) s k1 k2 0 (.defd .nil);generalize hW1 : ({ W with heap := W.heap.push (.deferred (some [])) } : World) = W1 at st1;have hc1 : (m.add c W.heap.size 0).b c = some W.heap.size := by simp [Ab.add]
              have hne : c ≠ c + 1 := by omega
              have st2 := St.new (o := .loop { state := .ready, pending := none, fn := f, tmps := ⟨rowOf T n []⟩, params, assign, body, defers := c }) (ob := .loop { state := .ready, pending := none, fn := b.fn, tmps := a.tmps, params, assign, body, defers := W.heap.size }) st1.sat k3 k4 0
                (.loop ⟨rfl, rfl, fr.fn, (rowOf_vr fr.tmps).mono (Ab.le_trans st1.le (Ab.le_add (st1.sat.fresh k3))), rfl, rfl, rfl, by simp [Ab.add]⟩)
              generalize hW2 : ({ W1 with heap := W1.heap.push (.loop { state := .ready, pending := none, fn := b.fn, tmps := a.tmps, params, assign, body, defers := W.heap.size }) } : World) = W2 at st2;have hl : ((m.add c W.heap.size 0).add (c + 1) W1.heap.size 0).b (c + 1) = some W1.heap.size := by simp [Ab.add]
              have hc2 : ((m.add c W.heap.size 0).add (c + 1) W1.heap.size 0).b c = some W.heap.size := by simp [Ab.add]
              have st12 := st1.trans st2;obtain ⟨d, args', r1, r2, r3⟩ := enter_inv (W := W2) hP hen (okO_vr (fr.tmps.mono st12.le) hx (fun _ _ f => f)) hl;obtain ⟨rfl, m3, W3, v', g1, g2, g3⟩ := callee hR st2.sat r3 hoa (b.atR { a with defers := [{ target := .collected W.heap.size, args := #[] }] ++ a.defers } (.inRangeFunc W1.heap.size :: tl')) cs;have hloop : (Instr.enterLoop b.fn a.tmps params assign body b.roundOf).run P W = .ok (W1.heap.size, [{ target := .collected W.heap.size, args := #[] }]) W2 := by
                rw [hb, ← hW2, ← hW1];simp [Instr.enterLoop];rfl
              rw [finish_atR_inRangeFunc] at g1;have stt := st12.trans g3;refine go1 hR e (a2 := { a with defers := [{ target := .collected W.heap.size, args := #[] }] ++ a.defers }) (k2 := .endRangeFunc W1.heap.size :: tl') (Steps.head (stepR_rangeFunc hloop r1 r2) g1) stt ?_ (.cons (.endRangeFunc (g3.le _ _ hl).1) (il.mono stt.le));exact fr.to stt.le (fr.tmps.mono stt.le) (.cons ⟨.collected (g3.le _ _ hc2).1, VL.arr (.nil _)⟩ (fr.defers.mono stt.le))
            case h_2 l hx =>
              split at e
              case h_2 => cases e
              rename_i r hr;split at e
              case h_2 => cases e
              rename_i h2 hl2;split at e
              case h_2 => cases e
              rename_i g args hen;split at e
              case h_2 => cases e
              rename_i v3 ds3 h3 c3 hoa;obtain ⟨k3, k4, rfl⟩ := layE_some hl2;obtain ⟨l', hb, hll⟩ := fr.round_some;obtain ⟨hg, r', hw, hlr, hrun⟩ := getLoopA_ok s hll hr
              have st2 := St.new (o := .loop { state := .ready, pending := none, fn := f, tmps := ⟨rowOf T n []⟩, params, assign, body, defers := r.defers }) (ob := .loop { state := .ready, pending := none, fn := b.fn, tmps := a.tmps, params, assign, body, defers := r'.defers }) s k3 k4 0
                (.loop ⟨rfl, rfl, fr.fn, (rowOf_vr fr.tmps).mono (Ab.le_add (s.fresh k3)), rfl, rfl, rfl, (Ab.le_add (s.fresh k3) _ _ hlr.defers).1⟩)
              generalize hW2 : ({ W with heap := W.heap.push (.loop { state := .ready, pending := none, fn := b.fn, tmps := a.tmps, params, assign, body, defers := r'.defers }) } : World) = W2 at st2;have hl : (m.add c W.heap.size 0).b c = some W.heap.size := by simp [Ab.add]
              obtain ⟨d, args', r1, r2, r3⟩ := enter_inv (W := W2) hP hen (okO_vr (fr.tmps.mono st2.le) hx (fun _ _ f => f)) hl;obtain ⟨rfl, m3, W3, v', g1, g2, g3⟩ := callee hR st2.sat r3 hoa (b.atR { a with defers := [] ++ a.defers } (.inRangeFunc W.heap.size :: tl')) cs;have hloop : (Instr.enterLoop b.fn a.tmps params assign body b.roundOf).run P W = .ok (W.heap.size, []) W2 := by
                rw [hb, ← hW2];simp [Instr.enterLoop, hrun]
              rw [finish_atR_inRangeFunc] at g1;have stt := st2.trans g3;exact go1 hR e (a2 := { a with defers := [] ++ a.defers }) (k2 := .endRangeFunc W.heap.size :: tl') (Steps.head (stepR_rangeFunc hloop r1 r2) g1) stt (fr.to stt.le (fr.tmps.mono stt.le) (fr.defers.mono stt.le)) (.cons (.endRangeFunc (g3.le _ _ hl).1) (il.mono stt.le))
theorem callA_ok {P : Program} {O : Memo P} (hP : named P) (hM : P.follows .mixedOrders = true) {k : Nat} {f : FuncId} {args : List Value} {h : Hp} {c : Nat} {v : Value} {h' : Hp} {c' : Nat} (e : callA P O k f args h c = some (v, h', c'))
    {n0 : Nat} {m : Ab} {W : World} (s : Sat P n0 m h W) {args' : Array Value} (ha : VL m args args'.toList) : Calls P f args' W fun en W' => ∃ v' m', en = .returned v' ∧ VR m' v v' ∧ St P n0 m m' h h' W W' := by
  unfold callA at e;split at e
  case h_2 => cases e
  rename_i F hF;split at e
  case h_2 => cases e
  rename_i y hy;obtain ⟨body, b2, a2, _, rfl, hen, hfr⟩ := enter_frm (df := false) (fnE_some hF) hy ha;intro cs;obtain ⟨v', W', fr', ⟨m', g1, g2⟩, g3, g4, g5⟩ := run_ok hP hM k _ _ _ _ _ _ _ _ _ _ _ _ _ e n0 m W b2 a2 [.code body] cs s hfr (.cons (.code body) .nil);have hen' : Frame.enter P f args' .normal = frm b2 a2 [.code body] false := hen;rw [hen'];exact ⟨.returned v', W', fr', ⟨v', m', rfl, g1, g2⟩, g3, g4, g5⟩
theorem closed_ok {P : Program} {O : Memo P} (hP : named P) (hM : P.follows .mixedOrders = true) {k : Nat} {f : FuncId} {c : Nat} {v : Value} {h' : Hp} {c' : Nat} (e : callA P O k f [] .e c = some (v, h', c')) (hv : flat 4 v = true) (W : World) :
    Calls P f #[] W fun en W' => en = .returned v ∧ Below W.heap.size W W' := by
  have s : Sat P W.heap.size ⟨fun _ => none, fun _ => 0⟩ .e W := ⟨fun i r o e => (by cases e), fun i j r ⟨o, e, _⟩ => (by cases e), fun i r ⟨o, e, _⟩ => (by cases e), fun i r e => (by cases e), Nat.le_refl _⟩;refine (callA_ok hP hM e s (.nil _)).mono ?_;rintro en W' ⟨v', m', rfl, hr, hst⟩;rw [flat_eq 4 hv hr];exact ⟨rfl, hst.below s⟩
def hereA (h : Hp) (i : Nat) : Bool := match h.get i with
  | some _ => true
  | none => false
def closedV : Nat → Hp → Value → Bool
  | _, _, .bool _ | _, _, .int .. | _, _, .string _ | _, _, .pointer none | _, _, .slice none .. | _, _, .map none | _, _, .nilFunc | _, _, .nilIface | _, _, .chan none => true
  | _, h, .pointer (some ⟨r, _, none⟩) => hereA h r
  | _, h, .slice (some ⟨r, _, none⟩) _ _ => hereA h r
  | _, h, .map (some r) => hereA h r
  | d + 1, h, .func (.func _) fs cs => fs.toList.all (closedV d h) && cs.toList.all (closedV d h)
  | d + 1, h, .iface _ v => closedV d h v
  | d + 1, h, .agg cs => cs.toList.all (closedV d h)
  | d + 1, h, .tuple cs => cs.toList.all (closedV d h)
  | _, _, _ => false
def Ab.cut (m : Ab) (h : Hp) : Ab := ⟨fun i => bif hereA h i then m.b i else none, m.c⟩
theorem cut_b {m : Ab} {h : Hp} {i r : Nat} (hi : hereA h i = true) (e : m.b i = some r) : (m.cut h).b i = some r := by simp [Ab.cut, hi, e]
theorem cut_inv {m : Ab} {h : Hp} {i r : Nat} (e : (m.cut h).b i = some r) : hereA h i = true ∧ m.b i = some r := by
  simp only [Ab.cut] at e;cases hb : hereA h i with
  | false => rw [hb] at e; cases e
  | true => rw [hb] at e; exact ⟨rfl, e⟩
theorem closedV_arr {m : Ab} {h : Hp} {d : Nat} {cs cs' : Array Value} (ih : ∀ {v v' : Value}, closedV d h v = true → VR m v v' → VR (m.cut h) v v') (hc : cs.toList.all (closedV d h) = true) (hv : ∀ i, VR m (cs.getD i undef) (cs'.getD i undef)) (hs : cs.size = cs'.size) (i : Nat) :
    VR (m.cut h) (cs.getD i undef) (cs'.getD i undef) := by
  rcases Nat.lt_or_ge i cs.size with hi | hi
  · exact ih (List.all_eq_true.1 hc _ (by simp [Array.getD, hi])) (hv i)
  · rw [getD_ge hi, getD_ge (by omega)]; exact .undef
theorem closedV_ok {m : Ab} {h : Hp} : ∀ (d : Nat) {v v' : Value}, closedV d h v = true → VR m v v' → VR (m.cut h) v v' := by
  intro d
  induction d with
  | zero =>
    intro v v' hc hv;cases hv with
    | undef => exact .undef
    | bool x => exact .bool x
    | int k x => exact .int k x
    | str s => exact .str s
    | any k x => exact .any k x
    | nilp => exact .nilp
    | ptr hb => exact .ptr (cut_b (by simpa [closedV] using hc) hb)
    | nils l c => exact .nils l c
    | sl hb h1 h2 => exact .sl (cut_b (by simpa [closedV] using hc) hb) h1 h2
    | nilm => exact .nilm
    | map hb => exact .map (cut_b (by simpa [closedV] using hc) hb)
    | nilf => exact .nilf
    | nili => exact .nili
    | _ => simp [closedV] at hc
  | succ d ih =>
    intro v v' hc hv;cases hv with
    | undef => exact .undef
    | bool x => exact .bool x
    | int k x => exact .int k x
    | str s => exact .str s
    | any k x => exact .any k x
    | nilp => exact .nilp
    | ptr hb => exact .ptr (cut_b (by simpa [closedV] using hc) hb)
    | nils l c => exact .nils l c
    | sl hb h1 h2 => exact .sl (cut_b (by simpa [closedV] using hc) hb) h1 h2
    | nilm => exact .nilm
    | map hb => exact .map (cut_b (by simpa [closedV] using hc) hb)
    | nilf => exact .nilf
    | nili => exact .nili
    | func f h1 h2 h3 h4 =>
      simp only [closedV, Bool.and_eq_true] at hc;exact .func f h1 (closedV_arr ih hc.1 h2 h1) h3 (closedV_arr ih hc.2 h4 h3)
    | iface t hv => exact .iface t (ih (by simpa only [closedV] using hc) hv)
    | agg hs hv => exact .agg hs (closedV_arr ih (by simpa only [closedV] using hc) hv hs)
    | tup hs hv => exact .tup hs (closedV_arr ih (by simpa only [closedV] using hc) hv hs)
    | yield _ => simp [closedV] at hc
def closedO (h : Hp) : AO → Bool
  | .row cs _ _ => cs.all (closedV 6 h)
  | .map es _ => es.all fun e => closedV 6 h e.key && closedV 6 h e.val
  | .defd none => true
  | .iter none .. => true
  | .iter (some q) .. => hereA h q
  | .gone => true
  | _ => false
theorem closedE_ok {m : Ab} {h : Hp} {l l' : List MapEntry} (hc : ∀ e ∈ l, closedV 6 h e.key = true ∧ closedV 6 h e.val = true) (hv : EL m l l') : EL (m.cut h) l l' := by
  induction hv with
  | nil => exact .nil
  | cons he _ ih =>
    have := hc _ (List.mem_cons_self ..);exact .cons ⟨closedV_ok 6 this.1 he.key, closedV_ok 6 this.2 he.val, he.born⟩ (ih fun x hx => hc x (List.mem_cons_of_mem _ hx))
theorem closedO_ok {P : Program} {m : Ab} {h : Hp} {i : Nat} {o : AO} {ob : Obj} (hc : closedO h o = true) (hr : OR P m i o ob) : OR P (m.cut h) i o ob := by
  have row : ∀ {cs : List Value} {c : Array Value} (k : Nat), cs.all (closedV 6 h) = true → VR m (cs.getD k undef) (c.getD k undef) → (cs.length ≤ k → c.getD k undef = undef) → VR (m.cut h) (cs.getD k undef) (c.getD k undef) := by
    intro cs c k ha hv hk;rcases Nat.lt_or_ge k cs.length with hl | hl
    · refine closedV_ok 6 (List.all_eq_true.1 ha _ ?_) hv;rw [List.getD_eq_getElem?_getD, List.getElem?_eq_getElem hl];simp
    · rw [hk hl, List.getD_eq_getElem?_getD, List.getElem?_eq_none hl]; exact .undef
  cases hr with
  | row t hl hv => exact .row t hl fun k => row k hc (hv k) fun hk => getD_ge (by omega)
  | opn t hi h1 h2 hv => exact .opn t hi h1 h2 fun k hk => row k hc (hv k hk) fun hk' => absurd hk (by omega)
  | map ck hv =>
    simp only [closedO, List.all_eq_true, Bool.and_eq_true] at hc;exact .map ck (closedE_ok hc hv)
  | loop => cases hc
  | defd0 => exact .defd0
  | defd => cases hc
  | iter0 a s b => exact .iter0 a s b
  | iter hb a s b => exact .iter (cut_b hc hb) a s b
  | gone => exact .gone _
def eeq (a b : MapEntry) : Bool := veq 6 a.key b.key && veq 6 a.val b.val && Nat.beq a.born b.born
def eall : List MapEntry → List MapEntry → Bool
  | [], [] => true
  | a :: l, b :: k => eeq a b && eall l k
  | _, _ => false
def nall : List Nat → List Nat → Bool
  | [], [] => true
  | a :: l, b :: k => Nat.beq a b && nall l k
  | _, _ => false
def bxor' (a b : Bool) : Bool := bif a then b else !b
def aoeq : AO → AO → Bool
  | .row a t p, .row b u q => all2 (veq 6) a b && Nat.beq t u && bxor' p q
  | .map a c, .map b d => eall a b && Nat.beq c d
  | .defd none, .defd none | .gone, .gone => true
  | .iter none a s b, .iter none a' s' b' => Nat.beq a a' && nall s.toList s'.toList && Nat.beq b b'
  | .iter (some q) a s b, .iter (some q') a' s' b' => Nat.beq q q' && Nat.beq a a' && nall s.toList s'.toList && Nat.beq b b'
  | _, _ => false
theorem eall_eq : ∀ {a b : List MapEntry}, eall a b = true → a = b
  | [], [], _ => rfl
  | ⟨k, v, n⟩ :: l, ⟨k', v', n'⟩ :: l', h => by
    simp only [eall, eeq, Bool.and_eq_true] at h;obtain ⟨⟨⟨h1, h2⟩, h3⟩, h4⟩ := h;rw [veq_eq 6 _ _ h1, veq_eq 6 _ _ h2, Nat.eq_of_beq_eq_true h3, eall_eq h4]
  | [], _ :: _, h => by cases h
  | _ :: _, [], h => by cases h
theorem nall_eq : ∀ {a b : List Nat}, nall a b = true → a = b
  | [], [], _ => rfl
  | a :: l, b :: k, h => by
    simp only [nall, Bool.and_eq_true] at h;rw [Nat.eq_of_beq_eq_true h.1, nall_eq h.2]
  | [], _ :: _, h => by cases h
  | _ :: _, [], h => by cases h
theorem bxor_eq {a b : Bool} (h : bxor' a b = true) : a = b := by cases a <;> cases b <;> first | rfl | cases h
theorem aoeq_eq {a b : AO} (h : aoeq a b = true) : a = b := by
  unfold aoeq at h;split at h
  case h_1 =>
    simp only [Bool.and_eq_true] at h;rw [all2_eq (veq_eq 6) h.1.1, Nat.eq_of_beq_eq_true h.1.2, bxor_eq h.2]
  case h_2 =>
    simp only [Bool.and_eq_true] at h;rw [eall_eq h.1, Nat.eq_of_beq_eq_true h.2]
  case h_3 => rfl
  case h_4 => rfl
  case h_5 =>
    simp only [Bool.and_eq_true] at h;rw [Nat.eq_of_beq_eq_true h.1.1, Array.ext' (nall_eq h.1.2), Nat.eq_of_beq_eq_true h.2]
  case h_6 =>
    simp only [Bool.and_eq_true] at h;rw [Nat.eq_of_beq_eq_true h.1.1.1, Nat.eq_of_beq_eq_true h.1.1.2, Array.ext' (nall_eq h.1.2), Nat.eq_of_beq_eq_true h.2]
  case h_7 => cases h
def ooeq : Option AO → Option AO → Bool
  | none, none => true
  | some a, some b => aoeq a b
  | _, _ => false
def teq : Hp → Hp → Bool
  | .e, .e => true
  | .n l v r, .n l' v' r' => ooeq v v' && teq l l' && teq r r'
  | _, _ => false
theorem teq_eq : ∀ {a b : Hp}, teq a b = true → a = b
  | .e, .e, _ => rfl
  | .n l v r, .n l' v' r', h => by
    simp only [teq, Bool.and_eq_true] at h;have hv : v = v' := by
      have := h.1.1;cases v <;> cases v' <;> first | rfl | (cases this; done) | exact congrArg some (aoeq_eq this)
    rw [hv, teq_eq h.1.2, teq_eq h.2]
  | .e, .n .., h => by cases h
  | .n .., .e, h => by cases h
def noneT : Hp → Bool
  | .e => true
  | .n l v r => (match v with | none => true | some _ => false) && noneT l && noneT r
def subT : Hp → Hp → Bool
  | .e, _ => true
  | .n l v r, .n l' v' r' => (match v, v' with | some _, none => false | _, _ => true) && subT l l' && subT r r'
  | .n l v r, .e => noneT (.n l v r)
def keepT (h' : Hp) : Hp → Hp → Bool
  | .e, _ => true
  | .n l v r, .n l1 v1 r1 => (match v, v1 with | none, _ => true | some a, some b => aoeq a b && closedO h' a | some _, none => false) && keepT h' l l1 && keepT h' r r1
  | .n l v r, .e => noneT (.n l v r)
theorem noneT_get : ∀ {a : Hp}, noneT a = true → ∀ i, a.get i = none
  | .e, _, i => rfl
  | .n l v r, h, i => by
    simp only [noneT, Bool.and_eq_true] at h;obtain ⟨⟨h1, h2⟩, h3⟩ := h;have hv : v = none := by cases v <;> first | rfl | cases h1
    subst hv;simp only [Tr.get];cases Nat.beq i 0 with
    | true => rfl
    | false =>
      cases Nat.beq (i % 2) 1 with
      | true => exact noneT_get h2 _
      | false => exact noneT_get h3 _
theorem subT_get : ∀ {a b : Hp}, subT a b = true → ∀ i, (a.get i).isSome = true → (b.get i).isSome = true
  | .e, _, _, i, hi => by cases hi
  | .n l v r, .e, h, i, hi => by
    rw [noneT_get h i] at hi; cases hi
  | .n l v r, .n l' v' r', h, i, hi => by
    simp only [subT, Bool.and_eq_true] at h;obtain ⟨⟨h1, h2⟩, h3⟩ := h;simp only [Tr.get] at hi ⊢;cases hb : Nat.beq i 0 with
    | true =>
      rw [hb] at hi;simp only [cond_true] at hi ⊢;cases v with
      | none => cases hi
      | some x => cases v' <;> first | rfl | cases h1
    | false =>
      rw [hb] at hi;simp only [cond_false] at hi ⊢;cases hc : Nat.beq (i % 2) 1 with
      | true => rw [hc] at hi; exact subT_get h2 _ hi
      | false => rw [hc] at hi; exact subT_get h3 _ hi
theorem keepT_get {h' : Hp} : ∀ {a b : Hp}, keepT h' a b = true → ∀ i o, a.get i = some o → b.get i = some o ∧ closedO h' o = true
  | .e, _, _, i, o, hi => by cases hi
  | .n l v r, .e, h, i, o, hi => by
    rw [noneT_get h i] at hi; cases hi
  | .n l v r, .n l' v' r', h, i, o, hi => by
    simp only [keepT, Bool.and_eq_true] at h;obtain ⟨⟨h1, h2⟩, h3⟩ := h;simp only [Tr.get] at hi ⊢;cases hb : Nat.beq i 0 with
    | true =>
      rw [hb] at hi;simp only [cond_true] at hi ⊢;subst hi;cases v' with
      | none => cases h1
      | some x =>
        simp only [Bool.and_eq_true] at h1;have := aoeq_eq h1.1;subst this;exact ⟨rfl, h1.2⟩
    | false =>
      rw [hb] at hi;simp only [cond_false] at hi ⊢;cases hc : Nat.beq (i % 2) 1 with
      | true => rw [hc] at hi; exact keepT_get h2 _ _ hi
      | false => rw [hc] at hi; exact keepT_get h3 _ _ hi
theorem here_some {h : Hp} {i : Nat} : hereA h i = (h.get i).isSome := by unfold hereA; cases h.get i <;> rfl
theorem St.prune {P : Program} {n0 : Nat} {m m1 : Ab} {h h1 h' : Hp} {W W' : World} (s : Sat P n0 m h W) (st : St P n0 m m1 h h1 W W') (e1 : subT h h' = true) (e2 : keepT h' h' h1 = true) : St P n0 m (m1.cut h') h h' W W' := by
  have sub := subT_get e1;have keep := keepT_get e2;have lv : ∀ i, live h' i → live h1 i := fun i ⟨o, g1, g2⟩ => ⟨o, (keep i o g1).1, g2⟩;refine ⟨⟨fun i x hx => ?_, ⟨?_, ?_, ?_, ?_, st.sat.base⟩, st.os, st.tape, st.output, st.size, st.rest, ?_⟩, ?_⟩
  · obtain ⟨g1, g2⟩ := st.le i x hx;exact ⟨cut_b (by rw [here_some]; exact sub i (s.dom i x hx)) g1, g2⟩
  · intro i r o hb hg;obtain ⟨_, hb⟩ := cut_inv hb;obtain ⟨g1, g2⟩ := keep i o hg;obtain ⟨ob, k1, k2⟩ := st.sat.has i r o hb g1;exact ⟨ob, k1, closedO_ok g2 k2⟩
  · intro i j r hi hj ei ej;exact st.sat.inj i j r (lv i hi) (lv j hj) (cut_inv ei).2 (cut_inv ej).2
  · intro i r hi ei;exact st.sat.low i r (lv i hi) (cut_inv ei).2
  · intro i r ei;rw [← here_some]; exact (cut_inv ei).1
  · intro i r hi ei;exact st.rng i r (lv i hi) (cut_inv ei).2
  · intro i o hb hg;obtain ⟨g1, g2⟩ := st.ghost i o hb hg;have hs := sub i (by rw [hg]; rfl);cases hh : h'.get i with
    | none => rw [hh] at hs; cases hs
    | some o' =>
      have := (keep i o' hh).1;rw [g1] at this;cases this
      refine ⟨rfl, ?_⟩;cases hc : (m1.cut h').b i with
      | none => rfl
      | some r => have := (cut_inv hc).2; rw [g2] at this; cases this
def checkM (P : Program) (O : Memo P) (k : Nat) (g : FuncId) (A : List Value) (H : Hp) (C : Nat) (V : Value) (H' : Hp) : Bool :=
  match callA P O k g A H C with
  | some (v, h1, _) => veq 6 v V && subT H H' && keepT H' H' h1 && closedV 6 H' V
  | none => false
theorem checkM_ok {P : Program} (hP : named P) (hM : P.follows .mixedOrders = true) {O : Memo P} {k : Nat} {g : FuncId} {A : List Value} {H : Hp} {C : Nat} {V : Value} {H' : Hp} (e : checkM P O k g A H C V H' = true)
    {n0 : Nat} {m : Ab} {W : World} (s : Sat P n0 m H W) {args' : Array Value} (ha : VL m A args'.toList) : Calls P g args' W fun en W' => ∃ v' m', en = .returned v' ∧ VR m' V v' ∧ St P n0 m m' H H' W W' := by
  unfold checkM at e;split at e
  case h_2 => cases e
  rename_i v h1 c1 hc;simp only [Bool.and_eq_true] at e;obtain ⟨⟨⟨e1, e2⟩, e3⟩, e4⟩ := e;refine (callA_ok hP hM hc s ha).mono ?_;rintro en W' ⟨v', m', rfl, hr, hst⟩;have := veq_eq 6 _ _ e1;subst this;exact ⟨v', _, rfl, closedV_ok 6 e4 hr, St.prune s hst e2 e3⟩
def Memo.add {P : Program} (hP : named P) (hM : P.follows .mixedOrders = true) (O : Memo P) (k : Nat) (g : FuncId) (A : List Value) (H : Hp) (C : Nat) (V : Value) (H' : Hp) (C' : Nat) (e : checkM P O k g A H C V H' = true) : Memo P where
  fn f args h c := bif Nat.beq f g && Nat.beq c C && all2 (veq 6) args A && teq h H then some (V, H', C') else O.fn f args h c
  ok := by
    intro f args h c v h' c' q n0 m W s args' ha;cases hb : (Nat.beq f g && Nat.beq c C && all2 (veq 6) args A && teq h H) with
    | false => rw [hb] at q; exact O.ok q s ha
    | true =>
      rw [hb] at q;simp only [cond_true, Option.some.injEq, Prod.mk.injEq] at q;obtain ⟨rfl, rfl, rfl⟩ := q;simp only [Bool.and_eq_true] at hb;obtain ⟨⟨⟨b1, b2⟩, b3⟩, b4⟩ := hb;have := Nat.eq_of_beq_eq_true b1;subst this;have := all2_eq (veq_eq 6) b3;subst this;have := teq_eq b4;subst this;exact checkM_ok hP hM e s ha
def saysTrue (P : Program) (O : Memo P) (k : Nat) (f : FuncId) (c : Nat) : Bool :=
  match callA P O k f [] .e c with
  | some (.bool b, _, _) => b
  | _ => false
theorem saysTrue_ok {P : Program} (hP : named P) (hM : P.follows .mixedOrders = true) {O : Memo P} {k : Nat} {f : FuncId} {c : Nat} (e : saysTrue P O k f c = true) (W : World) :
    Calls P f #[] W fun en W' => en = .returned (.bool true) ∧ Below W.heap.size W W' := by
  unfold saysTrue at e;split at e
  case h_2 => cases e
  rename_i b h' c' hc;subst e;exact closed_ok hP hM hc rfl W
end Go.Proofs.YtkmdakampkfioaaGreatDoor.Ev
