/- An evaluator for closed calls: its words: tables by number, values and worlds side by side. -/
import Derived.AtR
import Derived.Orders
import Derived.Below
import Derived.Laws.World
import Derived.Laws.Cells
import Derived.Laws.Build
import Derived.Laws.Append
import Derived.Laws.AppendOwn
import Derived.Laws.BytesString
namespace Go.Proofs.YtkmdakampkfioaaGreatDoor.Ev
open Go Go.RowKit
inductive Tr (α : Type) where
  | e
  | n (l : Tr α) (v : Option α) (r : Tr α)
def Tr.get {α : Type} : Tr α → Nat → Option α
  | .e, _ => none
  | .n l v r, k => bif Nat.beq k 0 then v else bif Nat.beq (k % 2) 1 then l.get (k / 2) else r.get (k / 2 - 1)
def Tr.sgl {α : Type} (x : Option α) : Nat → Nat → Tr α
  | 0, _ => .e
  | f + 1, k => bif Nat.beq k 0 then .n .e x .e else bif Nat.beq (k % 2) 1 then .n (sgl x f (k / 2)) none .e else .n .e none (sgl x f (k / 2 - 1))
def Tr.set {α : Type} (x : Option α) : Tr α → Nat → Tr α
  | .e, k => sgl x 64 k
  | .n l v r, k => bif Nat.beq k 0 then .n l x r else bif Nat.beq (k % 2) 1 then .n (l.set x (k / 2)) v r else .n l v (r.set x (k / 2 - 1))
theorem beq_iff (a b : Nat) : Nat.beq a b = decide (a = b) := by
  by_cases h : a = b
  · subst h; simp
  · simp only [h, decide_false]; exact Bool.eq_false_iff.2 (fun e => h (Nat.eq_of_beq_eq_true e))
theorem Tr.get_sgl {α : Type} (x : Option α) : ∀ (f k j : Nat), k + 1 < 2 ^ f → (sgl x f k).get j = if j = k then x else none
  | 0, k, j, h => by
    exact absurd h (by simp)
  | f + 1, k, j, h => by
    have hp : 2 ^ (f + 1) = 2 * 2 ^ f := by rw [Nat.pow_succ]; omega
    unfold sgl;simp only [beq_iff, Bool.cond_decide];by_cases h0 : k = 0
    · simp only [h0, if_true];unfold Tr.get;simp only [beq_iff, Bool.cond_decide];by_cases hj : j = 0
      · simp [hj]
      · simp [hj, Tr.get]
    · simp only [h0, if_false];by_cases h1 : k % 2 = 1
      · simp only [h1, if_true];unfold Tr.get;simp only [beq_iff, Bool.cond_decide];by_cases hj : j = 0
        · have : ¬ j = k := by omega
          simp [hj, Ne.symm h0]
        · simp only [hj, if_false];by_cases hj1 : j % 2 = 1
          · simp only [hj1, if_true, get_sgl x f (k / 2) (j / 2) (by omega)];by_cases e : j = k
            · simp [e]
            · have : ¬ j / 2 = k / 2 := by omega
              simp [e, this]
          · have : ¬ j = k := by omega
            simp [hj1, this, Tr.get]
      · simp only [h1, if_false];unfold Tr.get;simp only [beq_iff, Bool.cond_decide];by_cases hj : j = 0
        · simp [hj, Ne.symm h0]
        · simp only [hj, if_false];by_cases hj1 : j % 2 = 1
          · have : ¬ j = k := by omega
            simp [hj1, this, Tr.get]
          · simp only [hj1, if_false, get_sgl x f (k / 2 - 1) (j / 2 - 1) (by omega)];by_cases e : j = k
            · simp [e]
            · have : ¬ j / 2 - 1 = k / 2 - 1 := by omega
              simp [e, this]
theorem Tr.get_set {α : Type} (x : Option α) : ∀ (t : Tr α) (k j : Nat), k + 1 < 2 ^ 64 → (t.set x k).get j = if j = k then x else t.get j
  | .e, k, j, h => by
    unfold Tr.set;rw [get_sgl x 64 k j h];rfl
  | .n l v r, k, j, h => by
    unfold Tr.set;simp only [beq_iff, Bool.cond_decide];by_cases h0 : k = 0
    · simp only [h0, if_true];simp only [Tr.get, beq_iff, Bool.cond_decide];by_cases hj : j = 0 <;> simp [hj]
    · simp only [h0, if_false];by_cases h1 : k % 2 = 1
      · simp only [h1, if_true];simp only [Tr.get, beq_iff, Bool.cond_decide];by_cases hj : j = 0
        · simp [hj, Ne.symm h0]
        · simp only [hj, if_false];by_cases hj1 : j % 2 = 1
          · simp only [hj1, if_true, get_set x l (k / 2) (j / 2) (by omega)];by_cases e : j = k
            · simp [e]
            · have : ¬ j / 2 = k / 2 := by omega
              simp [e, this]
          · have : ¬ j = k := by omega
            simp [hj1, this]
      · simp only [h1, if_false];simp only [Tr.get, beq_iff, Bool.cond_decide];by_cases hj : j = 0
        · simp [hj, Ne.symm h0]
        · simp only [hj, if_false];by_cases hj1 : j % 2 = 1
          · have : ¬ j = k := by omega
            simp [hj1, this]
          · simp only [hj1, if_false, get_set x r (k / 2 - 1) (j / 2 - 1) (by omega)];by_cases e : j = k
            · simp [e]
            · have : ¬ j / 2 - 1 = k / 2 - 1 := by omega
              simp [e, this]
structure Ab where
  b : Nat → Option Nat
  c : Nat → Nat
def Ab.le (m n : Ab) : Prop := ∀ i x, m.b i = some x → n.b i = some x ∧ n.c i = m.c i
theorem Ab.le_refl (m : Ab) : m.le m := fun _ _ h => ⟨h, rfl⟩
theorem Ab.le_trans {a b c : Ab} (h : a.le b) (k : b.le c) : a.le c := fun i x hx => ⟨(k i x (h i x hx).1).1, (k i x (h i x hx).1).2.trans (h i x hx).2⟩
def big : Nat := 18446744073709551616
def capAt (k c : Nat) : Nat := bif Nat.ble big c then k - (c - big) else c
def junk : Value := .chan none
inductive VR (m : Ab) : Value → Value → Prop
  | undef : VR m (.tuple #[]) (.tuple #[])
  | bool (x : Bool) : VR m (.bool x) (.bool x)
  | int (k : IntKind) (x : Int) : VR m (.int k x) (.int k x)
  | str (s : ByteArray) : VR m (.string s) (.string s)
  | any (k : IntKind) (x : Int) : VR m (.chan none) (.int k x)
  | nilp : VR m (.pointer none) (.pointer none)
  | ptr {r r' o : Nat} (h : m.b r = some r') : VR m (.pointer (some ⟨r, o, none⟩)) (.pointer (some ⟨r', o, none⟩))
  | nils (l c : Nat) : VR m (.slice none l c) (.slice none l c)
  | sl {r r' o l c c' : Nat} (h : m.b r = some r') (hc : c' = capAt (m.c r) c) (hl : l ≤ c') : VR m (.slice (some ⟨r, o, none⟩) l c) (.slice (some ⟨r', o, none⟩) l c')
  | nilm : VR m (.map none) (.map none)
  | map {r r' : Nat} (h : m.b r = some r') : VR m (.map (some r)) (.map (some r'))
  | func (f : FuncId) {fs fs' cs cs' : Array Value} (h1 : fs.size = fs'.size) (h2 : ∀ i, VR m (fs.getD i undef) (fs'.getD i undef))
      (h3 : cs.size = cs'.size) (h4 : ∀ i, VR m (cs.getD i undef) (cs'.getD i undef)) : VR m (.func (.func f) fs cs) (.func (.func f) fs' cs')
  | yield {l l' : Nat} (h : m.b l = some l') : VR m (.func (.yield l) #[] #[]) (.func (.yield l') #[] #[])
  | nilf : VR m .nilFunc .nilFunc
  | iface (t : TypeId) {v v' : Value} (h : VR m v v') : VR m (.iface t v) (.iface t v')
  | nili : VR m .nilIface .nilIface
  | agg {cs cs' : Array Value} (hs : cs.size = cs'.size) (h : ∀ i, VR m (cs.getD i undef) (cs'.getD i undef)) : VR m (.agg cs) (.agg cs')
  | tup {cs cs' : Array Value} (hs : cs.size = cs'.size) (h : ∀ i, VR m (cs.getD i undef) (cs'.getD i undef)) : VR m (.tuple cs) (.tuple cs')
theorem VR.mono {m n : Ab} (hl : m.le n) {v v' : Value} (h : VR m v v') : VR n v v' := by
  induction h with
  | undef => exact .undef
  | bool x => exact .bool x
  | int k x => exact .int k x
  | str s => exact .str s
  | any k x => exact .any k x
  | nilp => exact .nilp
  | ptr h => exact .ptr (hl _ _ h).1
  | nils l c => exact .nils l c
  | sl h hc hk => exact .sl (hl _ _ h).1 (by rw [(hl _ _ h).2]; exact hc) hk
  | nilm => exact .nilm
  | map h => exact .map (hl _ _ h).1
  | func f h1 _ h3 _ i2 i4 => exact .func f h1 i2 h3 i4
  | yield h => exact .yield (hl _ _ h).1
  | nilf => exact .nilf
  | iface t _ ih => exact .iface t ih
  | nili => exact .nili
  | agg hs _ ih => exact .agg hs ih
  | tup hs _ ih => exact .tup hs ih
def flat : Nat → Value → Bool
  | _, .bool _ | _, .int .. | _, .string _ | _, .pointer none | _, .slice none .. | _, .map none | _, .nilFunc | _, .nilIface => true
  | d + 1, .func (.func _) fs cs => fs.toList.all (flat d) && cs.toList.all (flat d)
  | d + 1, .iface _ v => flat d v
  | d + 1, .agg cs => cs.toList.all (flat d)
  | d + 1, .tuple cs => cs.toList.all (flat d)
  | _, _ => false
def VRs (m : Ab) (cs cs' : Array Value) : Prop := cs.size = cs'.size ∧ ∀ i, VR m (cs.getD i undef) (cs'.getD i undef)
theorem array_eq {cs cs' : Array Value} (hs : cs.size = cs'.size) (h : ∀ i, i < cs.size → cs.getD i undef = cs'.getD i undef) : cs = cs' := by
  apply Array.ext hs;intro i h1 h2;have := h i h1;simpa [Array.getD, h1, h2] using this
theorem flat_eq {m : Ab} : ∀ (d : Nat) {v v' : Value}, flat d v = true → VR m v v' → v' = v := by
  intro d v v' hf h
  induction h generalizing d with
  | undef => rfl
  | bool x => rfl
  | int k x => rfl
  | str s => rfl
  | any k x => cases d <;> simp [flat] at hf
  | nilp => rfl
  | ptr h => cases d <;> simp [flat] at hf
  | nils l c => rfl
  | sl h hc hk => cases d <;> simp [flat] at hf
  | nilm => rfl
  | map h => cases d <;> simp [flat] at hf
  | func f h1 _ h3 _ i2 i4 =>
    cases d with
    | zero => simp [flat] at hf
    | succ d =>
      rename_i fs fs' cs cs' _ _;simp only [flat, Bool.and_eq_true, List.all_eq_true] at hf;have e1 : fs' = fs := (array_eq h1 fun i hi => (i2 i d (hf.1 _ (by simp [Array.getD, hi]))).symm).symm;have e2 : cs' = cs := (array_eq h3 fun i hi => (i4 i d (hf.2 _ (by simp [Array.getD, hi]))).symm).symm;rw [e1, e2]
  | yield h => cases d <;> simp [flat] at hf
  | nilf => rfl
  | iface t _ ih =>
    cases d with
    | zero => simp [flat] at hf
    | succ d => rw [ih d (by simpa [flat] using hf)]
  | nili => rfl
  | agg hs _ ih =>
    cases d with
    | zero => simp [flat] at hf
    | succ d =>
      simp only [flat, List.all_eq_true] at hf;rw [← array_eq hs fun i hi => (ih i d (hf _ (by simp [Array.getD, hi]))).symm]
  | tup hs _ ih =>
    cases d with
    | zero => simp [flat] at hf
    | succ d =>
      simp only [flat, List.all_eq_true] at hf;rw [← array_eq hs fun i hi => (ih i d (hf _ (by simp [Array.getD, hi]))).symm]
theorem getD_ge {cs : Array Value} {i : Nat} (h : cs.size ≤ i) : cs.getD i undef = undef := by simp [Array.getD, Nat.not_lt.2 h]
theorem flat_vr (m : Ab) : ∀ (d : Nat) (v : Value), flat d v = true → VR m v v := by
  have arr : ∀ (d : Nat), (∀ v, flat d v = true → VR m v v) → ∀ cs : Array Value, cs.toList.all (flat d) = true → ∀ i, VR m (cs.getD i undef) (cs.getD i undef) := by
    intro d ih cs h i;rcases Nat.lt_or_ge i cs.size with hi | hi
    · exact ih _ (List.all_eq_true.1 h _ (by simp [Array.getD, hi]))
    · rw [getD_ge hi]; exact .undef
  intro d
  induction d with
  | zero =>
    intro v h;cases v <;> (try (simp [flat] at h; done)) <;> (try (first | exact .bool _ | exact .int _ _ | exact .str _ | exact .nilf | exact .nili))
    case pointer a => cases a <;> simp [flat] at h; exact .nilp
    case slice a l c => cases a <;> simp [flat] at h; exact .nils _ _
    case map a => cases a <;> simp [flat] at h; exact .nilm
  | succ d ih =>
    intro v h;cases v <;> (try (first | exact .bool _ | exact .int _ _ | exact .str _ | exact .nilf | exact .nili)) <;> (try (simp [flat] at h; done))
    case pointer a => cases a <;> simp [flat] at h; exact .nilp
    case slice a l c => cases a <;> simp [flat] at h; exact .nils _ _
    case map a => cases a <;> simp [flat] at h; exact .nilm
    case func fn fs cs =>
      cases fn with
      | func f =>
        simp only [flat, Bool.and_eq_true] at h;exact .func _ rfl (arr d ih fs h.1) rfl (arr d ih cs h.2)
      | method => cases h
      | methodOf => cases h
      | via => cases h
      | yield => cases h
    case iface t v => exact .iface t (ih v (by simpa [flat] using h))
    case agg cs => exact .agg rfl (arr d ih cs (by simpa only [flat] using h))
    case tuple cs => exact .tup rfl (arr d ih cs (by simpa only [flat] using h))
inductive AO where
  | row (cs : List Value) (t : TypeId) (op : Bool)
  | map (es : List MapEntry) (clock : Nat)
  | loop (l : Loop)
  | defd (ds : Option (List Deferred))
  | iter (m : Option Nat) (since : Nat) (seen : Array Nat) (st : Nat)
  | gone
abbrev Hp := Tr AO
def AO.here : AO → Bool
  | .gone => false
  | _ => true
def live (h : Hp) (i : Nat) : Prop := ∃ o, h.get i = some o ∧ o.here = true
def VL (m : Ab) (cs cs' : List Value) : Prop := cs.length = cs'.length ∧ ∀ i, VR m (cs.getD i undef) (cs'.getD i undef)
structure ER (m : Ab) (e e' : MapEntry) : Prop where
  key : VR m e.key e'.key
  val : VR m e.val e'.val
  born : e'.born = e.born
inductive EL (m : Ab) : List MapEntry → List MapEntry → Prop
  | nil : EL m [] []
  | cons {e e' : MapEntry} {l l' : List MapEntry} (h : ER m e e') (k : EL m l l') : EL m (e :: l) (e' :: l')
inductive TR (m : Ab) : Target → Target → Prop
  | fn (f : FuncId) {cs cs' : Array Value} (h : VRs m cs cs') : TR m (.fn (.func f) cs) (.fn (.func f) cs')
  | builtin (b : Builtin) (ts : Array TypeId) (t : TypeId) (cs : Array Bool) : TR m (.builtin b ts t cs) (.builtin b ts t cs)
  | collected {r r' : Nat} (h : m.b r = some r') : TR m (.collected r) (.collected r')
structure DR (m : Ab) (d d' : Deferred) : Prop where
  target : TR m d.target d'.target
  args : VRs m d.args d'.args
inductive DL (m : Ab) : List Deferred → List Deferred → Prop
  | nil : DL m [] []
  | cons {d d' : Deferred} {l l' : List Deferred} (h : DR m d d') (k : DL m l l') : DL m (d :: l) (d' :: l')
structure LR (m : Ab) (l l' : Loop) : Prop where
  state : l'.state = l.state
  pending : l'.pending = l.pending
  fn : l'.fn = l.fn
  tmps : VRs m l.tmps l'.tmps
  params : l'.params = l.params
  assign : l'.assign = l.assign
  body : l'.body = l.body
  defers : m.b l.defers = some l'.defers
inductive OR (P : Program) (m : Ab) (i : Nat) : AO → Obj → Prop
  | row {cs : List Value} {c : Array Value} (t : TypeId) (hl : cs.length = c.size) (h : ∀ k, VR m (cs.getD k undef) (c.getD k undef)) : OR P m i (.row cs t false) (.cells c t (0, 0))
  | opn {cs : List Value} {c : Array Value} (t : TypeId) {inf : TypeInfo} (hi : P.info? t = some inf) (hc : c.size = m.c i * inf.size) (hl : cs.length ≤ c.size)
      (h : ∀ k, k < cs.length → VR m (cs.getD k undef) (c.getD k undef)) : OR P m i (.row cs t true) (.cells c t (0, 0))
  | map {es : List MapEntry} {es' : Array MapEntry} (ck : Nat) (h : EL m es es'.toList) : OR P m i (.map es ck) (.map es' ck)
  | loop {l l' : Loop} (h : LR m l l') : OR P m i (.loop l) (.loop l')
  | defd0 : OR P m i (.defd none) (.deferred none)
  | defd {ds ds' : List Deferred} (h : DL m ds ds') : OR P m i (.defd (some ds)) (.deferred (some ds'))
  | iter0 (a : Nat) (s : Array Nat) (b : Nat) : OR P m i (.iter none a s b) (.mapIter none a s b)
  | iter {r r' : Nat} (h : m.b r = some r') (a : Nat) (s : Array Nat) (b : Nat) : OR P m i (.iter (some r) a s b) (.mapIter (some r') a s b)
  | gone (o : Obj) : OR P m i .gone o
theorem VRs.mono {m n : Ab} (hl : m.le n) {a b : Array Value} (h : VRs m a b) : VRs n a b := ⟨h.1, fun i => (h.2 i).mono hl⟩
theorem TR.mono {m n : Ab} (hl : m.le n) {a b : Target} (h : TR m a b) : TR n a b := by
  cases h with
  | fn f h => exact .fn f (h.mono hl)
  | builtin b ts t cs => exact .builtin b ts t cs
  | collected h => exact .collected (hl _ _ h).1
theorem DR.mono {m n : Ab} (hl : m.le n) {a b : Deferred} (h : DR m a b) : DR n a b := ⟨h.target.mono hl, h.args.mono hl⟩
theorem DL.mono {m n : Ab} (hl : m.le n) {a b : List Deferred} (h : DL m a b) : DL n a b := by
  induction h with
  | nil => exact .nil
  | cons h _ ih => exact .cons (h.mono hl) ih
theorem EL.mono {m n : Ab} (hl : m.le n) {a b : List MapEntry} (h : EL m a b) : EL n a b := by
  induction h with
  | nil => exact .nil
  | cons h _ ih => exact .cons ⟨h.key.mono hl, h.val.mono hl, h.born⟩ ih
theorem OR.mono {P : Program} {m n : Ab} (hl : m.le n) {i : Nat} {x : Nat} (hi : m.b i = some x) {o : AO} {ob : Obj} (h : OR P m i o ob) : OR P n i o ob := by
  cases h with
  | row t hs h => exact .row t hs fun k => (h k).mono hl
  | opn t hin hc hs h => exact .opn t hin (by rw [(hl _ _ hi).2]; exact hc) hs fun k hk => (h k hk).mono hl
  | map ck h => exact .map ck (h.mono hl)
  | loop h => exact .loop ⟨h.state, h.pending, h.fn, h.tmps.mono hl, h.params, h.assign, h.body, (hl _ _ h.defers).1⟩
  | defd0 => exact .defd0
  | defd h => exact .defd (h.mono hl)
  | iter0 a s b => exact .iter0 a s b
  | iter h a s b => exact .iter (hl _ _ h).1 a s b
  | gone => exact .gone _
structure Sat (P : Program) (n0 : Nat) (m : Ab) (h : Hp) (W : World) : Prop where
  has : ∀ i r o, m.b i = some r → h.get i = some o → ∃ ob, W.heap[r]? = some ob ∧ OR P m i o ob
  inj : ∀ i j r, live h i → live h j → m.b i = some r → m.b j = some r → i = j
  low : ∀ i r, live h i → m.b i = some r → n0 ≤ r
  dom : ∀ i r, m.b i = some r → (h.get i).isSome = true
  base : n0 ≤ W.heap.size
structure St0 (P : Program) (n0 : Nat) (m m' : Ab) (h h' : Hp) (W W' : World) : Prop where
  le : m.le m'
  sat : Sat P n0 m' h' W'
  os : W'.os = W.os
  tape : W'.tape = W.tape
  output : W'.output = W.output
  size : W.heap.size ≤ W'.heap.size
  rest : ∀ r, r < W.heap.size → (∀ i, live h i → m.b i ≠ some r) → W'.heap[r]? = W.heap[r]?
  rng : ∀ i r, live h' i → m'.b i = some r → W.heap.size ≤ r ∨ ∃ j, live h j ∧ m.b j = some r
structure St (P : Program) (n0 : Nat) (m m' : Ab) (h h' : Hp) (W W' : World) : Prop extends St0 P n0 m m' h h' W W' where
  ghost : ∀ i o, m.b i = none → h.get i = some o → h'.get i = some o ∧ m'.b i = none
theorem St.refl {P : Program} {n0 : Nat} {m : Ab} {h : Hp} {W : World} (s : Sat P n0 m h W) : St P n0 m m h h W W :=
  ⟨⟨m.le_refl, s, rfl, rfl, rfl, Nat.le_refl _, fun _ _ _ => rfl, fun i _ hl hr => .inr ⟨i, hl, hr⟩⟩, fun _ _ h1 h2 => ⟨h2, h1⟩⟩
theorem St0.trans {P : Program} {n0 : Nat} {m m1 m2 : Ab} {h h1 h2 : Hp} {W W1 W2 : World} (a : St0 P n0 m m1 h h1 W W1) (b : St0 P n0 m1 m2 h1 h2 W1 W2) :
    St0 P n0 m m2 h h2 W W2 := by
  refine ⟨Ab.le_trans a.le b.le, b.sat, b.os.trans a.os, b.tape.trans a.tape, b.output.trans a.output, Nat.le_trans a.size b.size, ?_, ?_⟩
  · intro r hr hn;refine (b.rest r (Nat.lt_of_lt_of_le hr a.size) ?_).trans (a.rest r hr hn);intro i hi e;rcases a.rng i r hi e with h' | ⟨j, hj, ej⟩
    · omega
    · exact hn j hj ej
  · intro i r hi e;rcases b.rng i r hi e with h' | ⟨j, hj, ej⟩
    · exact .inl (Nat.le_trans a.size h')
    · exact a.rng j r hj ej
theorem St.trans {P : Program} {n0 : Nat} {m m1 m2 : Ab} {h h1 h2 : Hp} {W W1 W2 : World} (a : St P n0 m m1 h h1 W W1) (b : St P n0 m1 m2 h1 h2 W1 W2) : St P n0 m m2 h h2 W W2 :=
  ⟨a.toSt0.trans b.toSt0, fun i o h1 h2 => b.ghost i o (a.ghost i o h1 h2).2 (a.ghost i o h1 h2).1⟩
theorem St.below {P : Program} {n0 : Nat} {m m1 : Ab} {h h1 : Hp} {W W1 : World} (s : Sat P n0 m h W) (a : St P n0 m m1 h h1 W W1) : Below n0 W W1 :=
  ⟨a.os, a.tape, a.output, a.size, fun k hk => a.rest k (Nat.lt_of_lt_of_le hk s.base) fun i hi e => absurd (s.low i k hi e) (by omega)⟩
theorem heap_lt {W : World} {r : Nat} {o : Obj} (h : W.heap[r]? = some o) : r < W.heap.size := by
  rcases Nat.lt_or_ge r W.heap.size with h' | h'
  · exact h'
  · simp [Array.getElem?_eq_none h'] at h
theorem Sat.drew {P : Program} {n0 : Nat} {m : Ab} {h : Hp} {W : World} (s : Sat P n0 m h W) : Sat P n0 m h { W with drawn := W.drawn + 1 } := ⟨s.has, s.inj, s.low, s.dom, s.base⟩
theorem St.drew {P : Program} {n0 : Nat} {m : Ab} {h : Hp} {W : World} (s : Sat P n0 m h W) : St P n0 m m h h W { W with drawn := W.drawn + 1 } :=
  ⟨⟨m.le_refl, s.drew, rfl, rfl, rfl, Nat.le_refl _, fun _ _ _ => rfl, fun i _ hl hr => .inr ⟨i, hl, hr⟩⟩, fun _ _ h1 h2 => ⟨h2, h1⟩⟩
def Ab.add (m : Ab) (i r c : Nat) : Ab := ⟨fun j => if j = i then some r else m.b j, fun j => if j = i then c else m.c j⟩
theorem Ab.le_add {m : Ab} {i r c : Nat} (h : m.b i = none) : m.le (m.add i r c) := by
  intro j x hx;have hj : j ≠ i := fun e => by rw [e, h] at hx; cases hx
  simp [Ab.add, hj, hx]
theorem Sat.fresh {P : Program} {n0 : Nat} {m : Ab} {h : Hp} {W : World} (s : Sat P n0 m h W) {i : Nat} (hi : h.get i = none) : m.b i = none := by
  cases e : m.b i with
  | none => rfl
  | some r => have := s.dom i r e; rw [hi] at this; cases this
theorem live_set {h : Hp} {o : AO} {i j : Nat} (hi : i + 1 < 2 ^ 64) : live (h.set (some o) i) j ↔ (j = i ∧ o.here = true) ∨ (j ≠ i ∧ live h j) := by
  unfold live;rw [Tr.get_set _ _ _ _ hi];by_cases e : j = i
  · subst e; simp
  · simp [e]
theorem St.new {P : Program} {n0 : Nat} {m : Ab} {h : Hp} {W : World} (s : Sat P n0 m h W) {i : Nat} (hi : h.get i = none) (hb : i + 1 < 2 ^ 64) {o : AO} {ob : Obj} (c : Nat)
    (ho : OR P (m.add i W.heap.size c) i o ob) : St P n0 m (m.add i W.heap.size c) h (h.set (some o) i) W { W with heap := W.heap.push ob } := by
  have hf := s.fresh hi;have hle : m.le (m.add i W.heap.size c) := Ab.le_add hf;have old : ∀ j r, live h j → m.b j = some r → r < W.heap.size := fun j r ⟨o', e, _⟩ er => by
    obtain ⟨ob', e2, _⟩ := s.has j r o' er e;exact heap_lt e2
  have hn := s.base;refine ⟨⟨hle, ⟨?_, ?_, ?_, ?_, ?_⟩, rfl, rfl, rfl, by simp, ?_, ?_⟩, ?_⟩
  · intro j r o' er e;rw [Tr.get_set _ _ _ _ hb] at e;by_cases ej : j = i
    · subst ej;simp only [if_true, Option.some.injEq] at e;subst e;simp only [Ab.add, if_true, Option.some.injEq] at er;subst er;exact ⟨ob, by simp, ho⟩
    · simp only [ej, if_false] at e;simp only [Ab.add, ej, if_false] at er;obtain ⟨ob', e2, e3⟩ := s.has j r o' er e;refine ⟨ob', ?_, e3.mono hle er⟩;show (W.heap.push ob)[r]? = _
      rw [Array.getElem?_push, if_neg (by have := heap_lt e2; omega)];exact e2
  · intro j k r hj hk ej ek;rw [live_set hb] at hj hk;simp only [Ab.add] at ej ek;rcases hj with ⟨rfl, _⟩ | ⟨nj, lj⟩ <;> rcases hk with ⟨rfl, _⟩ | ⟨nk, lk⟩
    · rfl
    · simp only [if_true, Option.some.injEq, nk, if_false] at ej ek;have := old k r lk ek;omega
    · simp only [if_true, Option.some.injEq, nj, if_false] at ej ek;have := old j r lj ej;omega
    · simp only [nj, nk, if_false] at ej ek;exact s.inj j k r lj lk ej ek
  · intro j r hj ej;rw [live_set hb] at hj;simp only [Ab.add] at ej;rcases hj with ⟨rfl, _⟩ | ⟨nj, lj⟩
    · simp only [if_true, Option.some.injEq] at ej; omega
    · simp only [nj, if_false] at ej;exact s.low j r lj ej
  · intro j r ej;rw [Tr.get_set _ _ _ _ hb];by_cases e : j = i
    · simp [e]
    · simp only [Ab.add, e, if_false] at ej ⊢;exact s.dom j r ej
  · show n0 ≤ (W.heap.push ob).size
    simp; omega
  · intro r hr _;show (W.heap.push ob)[r]? = _
    rw [Array.getElem?_push, if_neg (by omega)]
  · intro j r hj ej;rw [live_set hb] at hj;simp only [Ab.add] at ej;rcases hj with ⟨rfl, _⟩ | ⟨nj, lj⟩
    · simp only [if_true, Option.some.injEq] at ej; exact .inl (by omega)
    · simp only [nj, if_false] at ej;exact .inr ⟨j, lj, ej⟩
  · intro j o' h1 h2;have ej : j ≠ i := fun e => by rw [e, hi] at h2; cases h2
    exact ⟨by rw [Tr.get_set _ _ _ _ hb, if_neg ej]; exact h2, by simp [Ab.add, ej, h1]⟩
theorem St0.real {P : Program} {n0 : Nat} {m : Ab} {h : Hp} {W : World} (s : Sat P n0 m h W) {i : Nat} {o : AO} (hi : h.get i = some o) (hf : m.b i = none) {ob : Obj} (c : Nat)
    (ho : OR P (m.add i W.heap.size c) i o ob) : St0 P n0 m (m.add i W.heap.size c) h h W { W with heap := W.heap.push ob } := by
  have hle : m.le (m.add i W.heap.size c) := Ab.le_add hf;have old : ∀ j r, live h j → m.b j = some r → r < W.heap.size := fun j r ⟨o', e, _⟩ er => by
    obtain ⟨ob', e2, _⟩ := s.has j r o' er e;exact heap_lt e2
  have hn := s.base;refine ⟨hle, ⟨?_, ?_, ?_, ?_, ?_⟩, rfl, rfl, rfl, by simp, ?_, ?_⟩
  · intro j r o' er e;by_cases ej : j = i
    · subst ej;rw [hi] at e; cases e;simp only [Ab.add, if_true, Option.some.injEq] at er;subst er;exact ⟨ob, by simp, ho⟩
    · simp only [Ab.add, ej, if_false] at er;obtain ⟨ob', e2, e3⟩ := s.has j r o' er e;refine ⟨ob', ?_, e3.mono hle er⟩;show (W.heap.push ob)[r]? = _
      rw [Array.getElem?_push, if_neg (by have := heap_lt e2; omega)];exact e2
  · intro j k r hj hk ej ek;simp only [Ab.add] at ej ek;by_cases e1 : j = i <;> by_cases e2 : k = i
    · rw [e1, e2]
    · subst e1;simp only [if_true, Option.some.injEq, e2, if_false] at ej ek;have := old k r hk ek;omega
    · subst e2;simp only [if_true, Option.some.injEq, e1, if_false] at ej ek;have := old j r hj ej;omega
    · simp only [e1, e2, if_false] at ej ek;exact s.inj j k r hj hk ej ek
  · intro j r hj ej;simp only [Ab.add] at ej;by_cases e1 : j = i
    · simp only [e1, if_true, Option.some.injEq] at ej; omega
    · simp only [e1, if_false] at ej;exact s.low j r hj ej
  · intro j r ej;by_cases e1 : j = i
    · rw [e1, hi]; rfl
    · simp only [Ab.add, e1, if_false] at ej;exact s.dom j r ej
  · show n0 ≤ (W.heap.push ob).size
    simp; omega
  · intro r hr _;show (W.heap.push ob)[r]? = _
    rw [Array.getElem?_push, if_neg (by omega)]
  · intro j r hj ej;simp only [Ab.add] at ej;by_cases e1 : j = i
    · simp only [e1, if_true, Option.some.injEq] at ej; exact .inl (by omega)
    · simp only [e1, if_false] at ej;exact .inr ⟨j, hj, ej⟩
theorem St.put {P : Program} {n0 : Nat} {m : Ab} {h : Hp} {W W' : World} (s : Sat P n0 m h W) {i r : Nat} (hi : live h i) (hr : m.b i = some r) (hb : i + 1 < 2 ^ 64) {o : AO} {ob : Obj}
    (ho : OR P m i o ob) (hw : W'.heap[r]? = some ob) (hx : ∀ k, k ≠ r → W'.heap[k]? = W.heap[k]?) (hs : W'.heap.size = W.heap.size)
    (h1 : W'.os = W.os) (h2 : W'.tape = W.tape) (h3 : W'.output = W.output) : St P n0 m m h (h.set (some o) i) W W' := by
  have lv : ∀ j, live (h.set (some o) i) j → live h j := fun j hj => by
    rw [live_set hb] at hj;rcases hj with ⟨rfl, _⟩ | ⟨_, lj⟩
    · exact hi
    · exact lj
  refine ⟨⟨m.le_refl, ⟨?_, fun j k r hj hk => s.inj j k r (lv j hj) (lv k hk), fun j r hj => s.low j r (lv j hj), ?_, by rw [hs]; exact s.base⟩, h1, h2, h3, Nat.le_of_eq hs.symm, ?_, fun j r hj e => .inr ⟨j, lv j hj, e⟩⟩, ?_⟩
  · intro j q o' e1 e;rw [Tr.get_set _ _ _ _ hb] at e;by_cases ej : j = i
    · subst ej;simp only [if_true, Option.some.injEq] at e;subst e;rw [hr] at e1; cases e1;exact ⟨ob, hw, ho⟩
    · simp only [ej, if_false] at e;obtain ⟨ob', e2, e3⟩ := s.has j q o' e1 e;by_cases hq : q = r
      · by_cases hh : o'.here = true
        · exact absurd (s.inj j i r ⟨o', e, hh⟩ hi (hq ▸ e1) hr) ej
        · cases o' <;> simp [AO.here] at hh
          exact ⟨ob, by rw [hq]; exact hw, .gone _⟩
      · exact ⟨ob', by rw [hx q hq]; exact e2, e3⟩
  · intro j r ej;rw [Tr.get_set _ _ _ _ hb];by_cases e : j = i
    · simp [e]
    · simp only [e, if_false]; exact s.dom j r ej
  · intro q _ hn;exact hx q fun e => hn i hi (by rw [e]; exact hr)
  · intro j o' h1 h2;have ej : j ≠ i := fun e => by rw [e, hr] at h1; cases h1
    exact ⟨by rw [Tr.get_set _ _ _ _ hb, if_neg ej]; exact h2, h1⟩
theorem lgetD_some {l : List Value} {i : Nat} {v : Value} (h : l[i]? = some v) : l.getD i undef = v := by simp [List.getD, h]
theorem VL.get {m : Ab} {l l' : List Value} (h : VL m l l') {i : Nat} {v : Value} (hv : l[i]? = some v) : ∃ v', l'[i]? = some v' ∧ VR m v v' := by
  obtain ⟨hi, _⟩ := List.getElem?_eq_some_iff.1 hv;have h' : i < l'.length := h.1 ▸ hi;refine ⟨l'[i], List.getElem?_eq_getElem h', ?_⟩;have := h.2 i;rw [lgetD_some hv, lgetD_some (List.getElem?_eq_getElem h')] at this;exact this
theorem VL.of {m : Ab} {l l' : List Value} (hl : l.length = l'.length) (h : ∀ (i : Nat) (v v' : Value), l[i]? = some v → l'[i]? = some v' → VR m v v') : VL m l l' := by
  refine ⟨hl, fun i => ?_⟩;rcases Nat.lt_or_ge i l.length with hi | hi
  · have e := List.getElem?_eq_getElem hi;have e' := List.getElem?_eq_getElem (hl ▸ hi : i < l'.length);rw [lgetD_some e, lgetD_some e'];exact h i _ _ e e'
  · simp only [List.getD, List.getElem?_eq_none hi, List.getElem?_eq_none (hl ▸ hi : l'.length ≤ i)];exact .undef
theorem agetD (cs : Array Value) (i : Nat) : cs.getD i undef = cs.toList.getD i undef := by
  rw [List.getD, ← Array.getElem?_toList.symm];simp [Array.getD_eq_getD_getElem?]
theorem VRs.list {m : Ab} {a b : Array Value} (h : VRs m a b) : VL m a.toList b.toList := ⟨by simpa using h.1, fun i => by rw [← agetD, ← agetD]; exact h.2 i⟩
theorem VL.arr {m : Ab} {a b : Array Value} (h : VL m a.toList b.toList) : VRs m a b := ⟨by simpa using h.1, fun i => by rw [agetD, agetD]; exact h.2 i⟩
theorem VL.nil (m : Ab) : VL m [] [] := .of rfl fun i v v' h => by simp at h
theorem VL.cons {m : Ab} {v v' : Value} {l l' : List Value} (hv : VR m v v') (h : VL m l l') : VL m (v :: l) (v' :: l') := by
  refine .of (by simp [h.1]) fun i a b ha hb => ?_;cases i with
  | zero => simp only [List.getElem?_cons_zero, Option.some.injEq] at ha hb; rw [← ha, ← hb]; exact hv
  | succ i =>
    simp only [List.getElem?_cons_succ] at ha hb;obtain ⟨c, hc, hr⟩ := h.get ha;rw [hb] at hc; cases hc; exact hr
theorem VL.append {m : Ab} {a a' b b' : List Value} (h : VL m a a') (k : VL m b b') : VL m (a ++ b) (a' ++ b') := by
  refine .of (by simp [h.1, k.1]) fun i v v' hv hv' => ?_;rw [List.getElem?_append] at hv hv';rw [← h.1] at hv';by_cases hi : i < a.length
  · simp only [hi, if_true] at hv hv';obtain ⟨c, hc, hr⟩ := h.get hv;rw [hv'] at hc; cases hc; exact hr
  · simp only [hi, if_false] at hv hv';obtain ⟨c, hc, hr⟩ := k.get hv;rw [hv'] at hc; cases hc; exact hr
theorem VL.take {m : Ab} {a a' : List Value} (h : VL m a a') (n : Nat) : VL m (a.take n) (a'.take n) := by
  refine .of (by simp [h.1]) fun i v v' hv hv' => ?_;rw [List.getElem?_take] at hv hv';by_cases hi : i < n
  · simp only [hi, if_true] at hv hv';obtain ⟨c, hc, hr⟩ := h.get hv;rw [hv'] at hc; cases hc; exact hr
  · simp [hi] at hv
theorem VL.drop {m : Ab} {a a' : List Value} (h : VL m a a') (n : Nat) : VL m (a.drop n) (a'.drop n) := by
  refine .of (by simp [h.1]) fun i v v' hv hv' => ?_;rw [List.getElem?_drop] at hv hv';obtain ⟨c, hc, hr⟩ := h.get hv;rw [hv'] at hc; cases hc; exact hr
theorem VL.set {m : Ab} {a a' : List Value} (h : VL m a a') (n : Nat) {x x' : Value} (hx : VR m x x') : VL m (a.set n x) (a'.set n x') := by
  refine .of (by simp [h.1]) fun i v v' hv hv' => ?_;rw [List.getElem?_set] at hv hv';rw [← h.1] at hv';by_cases hi : n = i
  · subst hi;by_cases hl : n < a.length
    · simp only [if_true, hl, Option.some.injEq] at hv hv';rw [← hv, ← hv']; exact hx
    · simp [hl] at hv
  · simp only [hi, if_false] at hv hv';obtain ⟨c, hc, hr⟩ := h.get hv;rw [hv'] at hc; cases hc; exact hr
theorem VL.map {m : Ab} {α : Type} {f g : α → Value} (l : List α) (h : ∀ x ∈ l, VR m (f x) (g x)) : VL m (l.map f) (l.map g) := by
  induction l with
  | nil => exact .nil m
  | cons a l ih => exact .cons (h a (by simp)) (ih fun x hx => h x (by simp [hx]))
theorem VR.agg_inv {m : Ab} {cs : Array Value} {v : Value} (h : VR m (.agg cs) v) : ∃ cs', v = .agg cs' ∧ VL m cs.toList cs'.toList := by
  cases h with | agg hs hh => exact ⟨_, rfl, VRs.list ⟨hs, hh⟩⟩
theorem VR.of_agg {m : Ab} {cs cs' : Array Value} (h : VL m cs.toList cs'.toList) : VR m (.agg cs) (.agg cs') := .agg h.arr.1 h.arr.2
theorem VR.tup_inv {m : Ab} {cs : Array Value} {v : Value} (h : VR m (.tuple cs) v) : ∃ cs', v = .tuple cs' ∧ VL m cs.toList cs'.toList := by
  cases h with
  | undef => exact ⟨_, rfl, .nil m⟩
  | tup hs hh => exact ⟨_, rfl, VRs.list ⟨hs, hh⟩⟩
theorem VR.of_tup {m : Ab} {cs cs' : Array Value} (h : VL m cs.toList cs'.toList) : VR m (.tuple cs) (.tuple cs') := .tup h.arr.1 h.arr.2
theorem VR.cells {m : Ab} {v v' : Value} (h : VR m v v') : VL m v.cells.toList v'.cells.toList := by
  cases h with
  | agg hs hh => exact VRs.list ⟨hs, hh⟩
  | undef => exact .cons .undef (.nil m)
  | bool x => exact .cons (.bool x) (.nil m)
  | int k x => exact .cons (.int k x) (.nil m)
  | str s => exact .cons (.str s) (.nil m)
  | any k x => exact .cons (.any k x) (.nil m)
  | nilp => exact .cons .nilp (.nil m)
  | ptr h => exact .cons (.ptr h) (.nil m)
  | nils l c => exact .cons (.nils l c) (.nil m)
  | sl h hc hk => exact .cons (.sl h hc hk) (.nil m)
  | nilm => exact .cons .nilm (.nil m)
  | map h => exact .cons (.map h) (.nil m)
  | func f h1 h2 h3 h4 => exact .cons (.func f h1 h2 h3 h4) (.nil m)
  | yield h => exact .cons (.yield h) (.nil m)
  | nilf => exact .cons .nilf (.nil m)
  | iface t h => exact .cons (.iface t h) (.nil m)
  | nili => exact .cons .nili (.nil m)
  | tup hs hh => exact .cons (.tup hs hh) (.nil m)
def pureRun (P : Program) {α : Type} : Sem α → Option α
  | .pure a => some a
  | .program k => pureRun P (k P)
  | .mark _ k => pureRun P k
  | _ => none
theorem pureRun_run {P : Program} {α : Type} {a : α} : ∀ {s : Sem α}, pureRun P s = some a → ∀ W, s.run P W = .ok a W := by
  intro s
  induction s with
  | pure b => intro h W; simp only [pureRun, Option.some.injEq] at h; rw [← h]; rfl
  | program k ih => intro h W; exact ih P h W
  | mark m k ih => intro h W; exact ih h W
  | _ => intro h; cases h
theorem rU {P : Program} {t : TypeId} {d : TypeDesc} (h : P.underlying t = some d) (W : World) : (underlying t).run P W = .ok d W := by simp [underlying, h]
theorem rI {P : Program} {t : TypeId} {i : TypeInfo} (h : P.info? t = some i) (W : World) : (typeInfo t).run P W = .ok i W := by simp [typeInfo, h]
theorem rS {P : Program} {t : TypeId} {i : TypeInfo} (h : P.info? t = some i) (W : World) : (sizeOf t).run P W = .ok i.size W := by simp [sizeOf, rI h]
theorem rZ {P : Program} {t : TypeId} {i : TypeInfo} (h : P.info? t = some i) {z : Value} (hz : i.zero = some z) (W : World) : (zeroValue t).run P W = .ok z W := by simp [zeroValue, rI h, hz]
def isAggD : TypeDesc → Bool
  | .struct _ | .array _ _ => true
  | _ => false
theorem rA {P : Program} {t : TypeId} {d : TypeDesc} (h : P.underlying t = some d) (W : World) : (isAgg t).run P W = .ok (isAggD d) W := by
  simp only [isAgg, Sem.run_bind, rU h, Result.andThen_ok];cases d <;> rfl
def partE (P : Program) (t : TypeId) (cs : List Value) (off : Nat) : Option Value :=
  match P.underlying t with
  | none => none
  | some d => match isAggD d with
    | true => match P.info? t with
      | none => none
      | some i => some (.agg ⟨(cs.drop off).take i.size⟩)
    | false => cs[off]?
theorem rPart {P : Program} {t : TypeId} {m : Ab} {cs cs' : Array Value} {off : Nat} {v : Value} (h : partE P t cs.toList off = some v) (hv : VL m cs.toList cs'.toList) :
    ∃ v', VR m v v' ∧ ∀ W, (part t cs' off).run P W = .ok v' W := by
  unfold partE at h;cases hu : P.underlying t with
  | none => simp [hu] at h
  | some d =>
    simp only [hu] at h;cases ha : isAggD d with
    | true =>
      simp only [ha] at h;cases hi : P.info? t with
      | none => simp [hi] at h
      | some i =>
        simp only [hi, Option.some.injEq] at h;subst h;refine ⟨.agg (cs'.extract off (off + i.size)), .of_agg ?_, fun W => by simp [part, rA hu, ha, rS hi]⟩;have : (cs'.extract off (off + i.size)).toList = (cs'.toList.drop off).take i.size := by
          simp [List.extract_eq_take_drop]
        rw [this];exact (hv.drop off).take i.size
    | false =>
      simp only [ha] at h;obtain ⟨v', e, hr⟩ := hv.get h;have e' : cs'[off]? = some v' := by rw [← Array.getElem?_toList]; exact e
      exact ⟨v', hr, fun W => by simp [part, rA hu, ha, e']⟩
def fieldE (P : Program) (s : TypeId) (x : Value) (f : Nat) : Option Value :=
  match x, P.underlying s with
  | .pointer (some ⟨r, o, none⟩), some (.struct fs) => match fs[f]? with
    | none => none
    | some fd => match P.info? fd.type with
      | none => none
      | some i => bif Nat.beq i.size 0 then none else some (.pointer (some ⟨r, o + fd.offset, none⟩))
  | _, _ => none
theorem add_none (r o n : Nat) : Addr.add ⟨r, o, none⟩ n = ⟨r, o + n, none⟩ := by
  unfold Addr.add;split
  · rename_i h; simp [h]
  · rfl
theorem fieldE_ok {P : Program} {m : Ab} {s f : Nat} {x x' v : Value} (h : fieldE P s x f = some v) (hx : VR m x x') : ∃ v', VR m v v' ∧ ∀ W, (Instr.fieldAt s x' f).run P W = .ok v' W := by
  unfold fieldE at h;split at h
  case h_2 => cases h
  rename_i r o fs hu;cases hf : fs[f]? with
  | none => simp [hf] at h
  | some fd =>
    simp only [hf] at h;cases hi : P.info? fd.type with
    | none => simp [hi] at h
    | some i =>
      simp only [hi, beq_iff, Bool.cond_decide] at h;by_cases hz : i.size = 0
      · simp [hz] at h
      · simp only [hz, if_false, Option.some.injEq] at h;subst h;cases hx with
        | ptr hr =>
          exact ⟨_, .ptr hr, fun W => by simp [Instr.fieldAt, rU hu, hf, Instr.sureAddr, fieldPlace, rS hi, hz, add_none]⟩
def fldE (P : Program) (t : TypeId) (x : Value) (f : Nat) : Option Value :=
  match x, P.underlying t with
  | .agg cs, some (.struct fs) => match fs[f]? with
    | none => none
    | some fd => partE P fd.type cs.toList fd.offset
  | _, _ => none
theorem fldE_ok {P : Program} {m : Ab} {t f : Nat} {x x' v : Value} (h : fldE P t x f = some v) (hx : VR m x x') : ∃ v', VR m v v' ∧ ∀ W, (Instr.field t x' f).run P W = .ok v' W := by
  unfold fldE at h;split at h
  case h_2 => cases h
  rename_i cs fs hu;cases hf : fs[f]? with
  | none => simp [hf] at h
  | some fd =>
    simp only [hf] at h;obtain ⟨cs', rfl, hv⟩ := hx.agg_inv;obtain ⟨v', hr, hrun⟩ := rPart h hv;exact ⟨v', hr, fun W => by simp [Instr.field, rU hu, hf, asAgg, hrun]⟩
def inB (i : Int) (n : Nat) : Option Nat :=
  match i with
  | .ofNat k => bif Nat.ble (k + 1) n then some k else none
  | .negSucc _ => none
theorem inB_some {i : Int} {n k : Nat} (h : inB i n = some k) : 0 ≤ i ∧ i < n ∧ i.toNat = k ∧ k < n := by
  unfold inB at h;cases i with
  | negSucc _ => cases h
  | ofNat j =>
    simp only at h;cases hb : Nat.ble (j + 1) n with
    | false => simp [hb] at h
    | true =>
      simp only [hb, cond_true, Option.some.injEq] at h;have := Nat.le_of_ble_eq_true hb;subst h;exact ⟨by simp, by simpa using (by omega : j < n), by simp, by omega⟩
def idxE (P : Program) (t : TypeId) (x ix : Value) : Option Value :=
  match ix, x, P.underlying t with
  | .int _ i, .slice (some ⟨r, o, none⟩) len _, some (.slice e) => match inB i len, P.info? e with
    | some k, some inf => some (.pointer (some ⟨r, o + k * inf.size, none⟩))
    | _, _ => none
  | .int _ i, .pointer (some ⟨r, o, none⟩), some (.array len e) => match inB i len, P.info? e with
    | some k, some inf => some (.pointer (some ⟨r, o + k * inf.size, none⟩))
    | _, _ => none
  | _, _, _ => none
theorem idxE_ok {P : Program} {m : Ab} {t : Nat} {x x' ix ix' v : Value} (h : idxE P t x ix = some v) (hx : VR m x x') (hi : VR m ix ix') :
    ∃ v', VR m v v' ∧ ∀ W, (Instr.indexAt t x' ix').run P W = .ok v' W := by
  unfold idxE at h;split at h
  case h_3 => cases h
  case h_1 ki i r o len cap e hu =>
    split at h
    case h_2 => cases h
    rename_i k inf hk hin;simp only [Option.some.injEq] at h;subst h;obtain ⟨h0, h1, h2, _⟩ := inB_some hk;cases hi
    cases hx with
    | sl hr hc hk => exact ⟨_, .ptr hr, fun W => by simp [Instr.indexAt, asIntOf, rU hu, h0, h1, rS hin, add_none, h2]⟩
  case h_2 ki i r o len e hu =>
    split at h
    case h_2 => cases h
    rename_i k inf hk hin;simp only [Option.some.injEq] at h;subst h;obtain ⟨h0, h1, h2, _⟩ := inB_some hk;cases hi
    cases hx with
    | ptr hr => exact ⟨_, .ptr hr, fun W => by simp [Instr.indexAt, asIntOf, rU hu, Instr.sureAddr, h0, h1, rS hin, add_none, h2]⟩
def idvE (P : Program) (t : TypeId) (x ix : Value) : Option Value :=
  match ix, x, P.underlying t with
  | .int _ i, .agg cs, some (.array len e) => match inB i len, P.info? e with
    | some k, some inf => partE P e cs.toList (k * inf.size)
    | _, _ => none
  | _, _, _ => none
theorem idvE_ok {P : Program} {m : Ab} {t : Nat} {x x' ix ix' v : Value} (h : idvE P t x ix = some v) (hx : VR m x x') (hi : VR m ix ix') :
    ∃ v', VR m v v' ∧ ∀ W, (Instr.index t x' ix').run P W = .ok v' W := by
  unfold idvE at h;split at h
  case h_2 => cases h
  rename_i ki i cs len e hu;split at h
  case h_2 => cases h
  rename_i k inf hk hin;obtain ⟨h0, h1, h2, _⟩ := inB_some hk;obtain ⟨cs', rfl, hv⟩ := hx.agg_inv;obtain ⟨v', hr, hrun⟩ := rPart h hv;cases hi
  exact ⟨v', hr, fun W => by simp [Instr.index, asIntOf, rU hu, h0, h1, rS hin, h2, hrun]⟩
def numB (y : Nat) : Value → Option Nat
  | .int _ i => inB i (y + 1)
  | _ => none
def bnds (len cap : Nat) (lo hi mx : Option Value) : Option (Nat × Nat × Nat) :=
  match (match mx with | none => some cap | some v => numB cap v) with
  | none => none
  | some m => match (match hi with | some v => numB m v | none => match mx with | none => some len | some _ => none) with
    | none => none
    | some h => match (match lo with | none => some 0 | some v => numB h v) with
      | none => none
      | some l => some (l, h, m)
def OVR (m : Ab) : Option Value → Option Value → Prop
  | none, none => True
  | some x, some y => VR m x y
  | _, _ => False
theorem numB_run {P : Program} {m : Ab} {y y' k : Nat} {v v' : Value} (h : numB y v = some k) (hv : VR m v v') (hy : y ≤ y') (c : BoundsCode) :
    k ≤ y ∧ ∀ W, (Instr.sliceBound v' y' c).run P W = .ok k W := by
  unfold numB at h;split at h
  case h_2 => cases h
  rename_i kk i;obtain ⟨h0, h1, h2, h3⟩ := inB_some h;cases hv
  have h4 : i ≤ (y' : Int) := by omega
  exact ⟨by omega, fun W => by simp [Instr.sliceBound, asIntOf, h0, h4, h2]⟩
theorem bnds_run {P : Program} {a : Ab} {len cap cap' l h m : Nat} {lo lo' hi hi' mx mx' : Option Value} (e : bnds len cap lo hi mx = some (l, h, m)) (hc : cap ≤ cap') (hlen : len ≤ cap)
    (hlo : OVR a lo lo') (hhi : OVR a hi hi') (hmx : OVR a mx mx') (s : Bool) :
    l ≤ h ∧ h ≤ m ∧ m ≤ cap ∧ (mx = none → m = cap) ∧ ∀ W, (Instr.sliceBounds s len cap' lo' hi' mx').run P W = .ok (l, h, if mx.isNone then cap' else m) W := by
  unfold bnds at e;split at e
  case h_1 => cases e
  rename_i m0 em;split at e
  case h_1 => cases e
  rename_i h0 eh;split at e
  case h_1 => cases e
  rename_i l0 el;simp only [Option.some.injEq, Prod.mk.injEq] at e;obtain ⟨rfl, rfl, rfl⟩ := e;cases mx with
  | none =>
    cases mx' with
    | some _ => exact hmx.elim
    | none =>
      simp only [Option.some.injEq] at em;subst em;have hh : h0 ≤ cap ∧ ∀ W, (match hi' with | some v => Instr.sliceBound v cap' (if s then .sliceAcap else .sliceAlen) | none => pure len : Sem Nat).run P W = .ok h0 W := by
        cases hi with
        | none =>
          cases hi' with
          | some _ => exact hhi.elim
          | none => simp only [Option.some.injEq] at eh; subst eh; exact ⟨hlen, fun W => rfl⟩
        | some v =>
          cases hi' with
          | none => exact hhi.elim
          | some v' => exact numB_run eh hhi hc _
      have hl : l0 ≤ h0 ∧ ∀ W, (match lo' with | some v => Instr.sliceBound v h0 .sliceB | none => pure 0 : Sem Nat).run P W = .ok l0 W := by
        cases lo with
        | none =>
          cases lo' with
          | some _ => exact hlo.elim
          | none => simp only [Option.some.injEq] at el; subst el; exact ⟨Nat.zero_le _, fun W => rfl⟩
        | some v =>
          cases lo' with
          | none => exact hlo.elim
          | some v' => exact numB_run el hlo (Nat.le_refl _) _
      refine ⟨hl.1, hh.1, Nat.le_refl _, fun _ => rfl, fun W => ?_⟩;have e1 := hh.2 W;have e2 := hl.2 W;cases hi' <;> cases lo' <;> simp_all [Instr.sliceBounds]
  | some w =>
    cases mx' with
    | none => exact hmx.elim
    | some w' =>
      obtain ⟨hm1, hm2⟩ := numB_run (P := P) em hmx hc (if s then .slice3Acap else .slice3Alen);cases hi with
      | none => cases eh
      | some v =>
        cases hi' with
        | none => exact hhi.elim
        | some v' =>
          obtain ⟨hh1, hh2⟩ := numB_run (P := P) eh hhi (Nat.le_refl _) .slice3B;have hl : l0 ≤ h0 ∧ ∀ W, (match lo' with | some v => Instr.sliceBound v h0 .slice3C | none => pure 0 : Sem Nat).run P W = .ok l0 W := by
            cases lo with
            | none =>
              cases lo' with
              | some _ => exact hlo.elim
              | none => simp only [Option.some.injEq] at el; subst el; exact ⟨Nat.zero_le _, fun W => rfl⟩
            | some v =>
              cases lo' with
              | none => exact hlo.elim
              | some v' => exact numB_run el hlo (Nat.le_refl _) _
          refine ⟨hl.1, hh1, hm1, fun e => (by cases e), fun W => ?_⟩;have e0 := hm2 W;have e1 := hh2 W;have e2 := hl.2 W;cases lo' <;> simp_all [Instr.sliceBounds]
def slcE (P : Program) (t : TypeId) (x : Value) (lo hi mx : Option Value) : Option Value :=
  match P.underlying t, x with
  | some (.slice e), .slice (some ⟨r, o, none⟩) len cap => match P.info? e with
    | none => none
    | some inf => match Nat.ble big cap with
      | true => match bnds len len lo hi mx with
        | none => none
        | some (l, h, m) => match mx with
          | none => bif Nat.beq l 0 || Nat.ble (l + 1) h then some (.slice (some ⟨r, o + l * inf.size, none⟩) (h - l) (cap + l)) else none
          | some _ => bif Nat.ble big m then none else some (.slice (some ⟨r, bif Nat.beq m l then o else o + l * inf.size, none⟩) (h - l) (m - l))
      | false => match bnds len cap lo hi mx with
        | none => none
        | some (l, h, m) => bif Nat.ble big m then none else some (.slice (some ⟨r, bif Nat.beq m l then o else o + l * inf.size, none⟩) (h - l) (m - l))
  | some (.array n e), .pointer (some ⟨r, o, none⟩) => match P.info? e with
    | none => none
    | some inf => match bnds n n lo hi mx with
      | none => none
      | some (l, h, m) => bif Nat.ble big m then none else some (.slice (some ⟨r, bif Nat.beq m l then o else o + l * inf.size, none⟩) (h - l) (m - l))
  | _, _ => none
theorem capAt_small {k c : Nat} (h : c < big) : capAt k c = c := by
  unfold capAt;cases hb : Nat.ble big c with
  | true => have := Nat.le_of_ble_eq_true hb; omega
  | false => exact cond_false _ _
theorem capAt_big {k c : Nat} (h : big ≤ c) : capAt k c = k - (c - big) := by
  unfold capAt;rw [Nat.ble_eq_true_of_le h];exact cond_true _ _
theorem ble_false {a b : Nat} (h : Nat.ble a b = false) : b < a := by
  rcases Nat.lt_or_ge b a with h' | h'
  · exact h'
  · rw [Nat.ble_eq_true_of_le h'] at h; cases h
theorem slcE_ok {P : Program} {a : Ab} {t : Nat} {x x' v : Value} {lo lo' hi hi' mx mx' : Option Value} (e : slcE P t x lo hi mx = some v) (hx : VR a x x')
    (hlo : OVR a lo lo') (hhi : OVR a hi hi') (hmx : OVR a mx mx') : ∃ v', VR a v v' ∧ ∀ W, (Instr.sliceAt t x' lo' hi' mx').run P W = .ok v' W := by
  unfold slcE at e;split at e
  case h_3 => cases e
  case h_1 el r o len cap hu =>
    split at e
    case h_1 => cases e
    rename_i inf hin;cases hx with
    | sl hr hc hl =>
      rename_i r' cap';split at e
      case h_1 hb =>
        have hb' := Nat.le_of_ble_eq_true hb;rw [capAt_big hb'] at hc;split at e
        case h_1 => cases e
        rename_i l h m eb;obtain ⟨b1, b2, b3, b4, brun⟩ := bnds_run (P := P) eb (Nat.le_trans hl (Nat.le_refl cap')) (Nat.le_refl _) hlo hhi hmx true;split at e
        case h_1 =>
          simp only [beq_iff] at e;by_cases hcnd : (decide (l = 0) || Nat.ble (l + 1) h) = true
          · simp only [hcnd, cond_true, Option.some.injEq] at e;subst e;have hlh : l = 0 ∨ l < h := by
              simp only [Bool.or_eq_true, decide_eq_true_eq] at hcnd;exact hcnd.imp id fun q => Nat.le_of_ble_eq_true q
            refine ⟨.slice (some ⟨r', o + l * inf.size, none⟩) (h - l) (cap' - l), .sl hr ?_ (by omega), fun W => ?_⟩
            · rw [capAt_big (by omega)]; omega
            · simp only [Instr.sliceAt, Sem.run_bind, rU hu, Result.andThen_ok, Instr.slice, brun W, rS hin];simp only [Option.isNone_none, if_true, Sem.run_pure, Option.map_some, add_none];by_cases hq : cap' = l
              · have : l = 0 := by omega
                subst this;simp [hq]
              · simp [hq]
          · simp only [Bool.not_eq_true] at hcnd;simp [hcnd] at e
        case h_2 w =>
          cases hbm : Nat.ble big m with
          | true => simp [hbm] at e
          | false =>
            simp only [hbm, cond_false, Option.some.injEq] at e;subst e;have hmb := ble_false hbm;refine ⟨.slice (some ⟨r', bif Nat.beq m l then o else o + l * inf.size, none⟩) (h - l) (m - l), .sl hr ?_ (by omega), fun W => ?_⟩
            · rw [capAt_small (by omega)]
            · simp only [Instr.sliceAt, Sem.run_bind, rU hu, Result.andThen_ok, Instr.slice, brun W, rS hin];simp only [Option.isNone_some, Sem.run_pure, Option.map_some, add_none, beq_iff, Bool.cond_decide];by_cases hq : m = l <;> simp [hq]
      case h_2 hb =>
        have hb' := ble_false hb;rw [capAt_small hb'] at hc;subst hc;split at e
        case h_1 => cases e
        rename_i l h m eb;obtain ⟨b1, b2, b3, b4, brun⟩ := bnds_run (P := P) eb (Nat.le_refl _) hl hlo hhi hmx true;cases hbm : Nat.ble big m with
        | true => simp [hbm] at e
        | false =>
          simp only [hbm, cond_false, Option.some.injEq] at e;subst e;have hmb := ble_false hbm;refine ⟨.slice (some ⟨r', bif Nat.beq m l then o else o + l * inf.size, none⟩) (h - l) (m - l), .sl hr ?_ (by omega), fun W => ?_⟩
          · rw [capAt_small (by omega)]
          · simp only [Instr.sliceAt, Sem.run_bind, rU hu, Result.andThen_ok, Instr.slice, brun W, rS hin];have hm' : (if mx.isNone = true then cap' else m) = m := by
              cases mx with
              | none => simp [b4 rfl]
              | some _ => simp
            simp only [hm', Sem.run_pure, Option.map_some, add_none, beq_iff, Bool.cond_decide];by_cases hq : m = l <;> simp [hq]
  case h_2 n el r o hu =>
    split at e
    case h_1 => cases e
    rename_i inf hin;cases hx with
    | ptr hr =>
      rename_i r';split at e
      case h_1 => cases e
      rename_i l h m eb;obtain ⟨b1, b2, b3, b4, brun⟩ := bnds_run (P := P) eb (Nat.le_refl _) (Nat.le_refl _) hlo hhi hmx false;cases hbm : Nat.ble big m with
      | true => simp [hbm] at e
      | false =>
        simp only [hbm, cond_false, Option.some.injEq] at e;subst e;have hmb := ble_false hbm;refine ⟨.slice (some ⟨r', bif Nat.beq m l then o else o + l * inf.size, none⟩) (h - l) (m - l), .sl hr ?_ (by omega), fun W => ?_⟩
        · rw [capAt_small (by omega)]
        · simp only [Instr.sliceAt, Sem.run_bind, rU hu, Result.andThen_ok, Instr.sureAddr, Sem.run_pure, brun W, rS hin];have hm' : (if mx.isNone = true then n else m) = m := by
            cases mx with
            | none => simp [b4 rfl]
            | some _ => simp
          simp only [hm', add_none, beq_iff, Bool.cond_decide];by_cases hq : m = l <;> simp [hq]
def laid (vs : List Value) (off : Nat) : List Value → List Value
  | [] => vs
  | v :: l => laid (vs.set off v) (off + 1) l
def fillE (place : Nat → Option (Nat × Nat)) (cells : List Value) : List (Nat × Value) → Option (List Value)
  | [] => some cells
  | (i, v) :: rest => match place i with
    | none => none
    | some (off, size) => bif Nat.beq v.cells.size size && Nat.ble (off + v.cells.size) cells.length then fillE place (laid cells off v.cells.toList) rest else none
theorem laid_vl {m : Ab} {l l' : List Value} (h : VL m l l') : ∀ {a a' : List Value} (off : Nat), VL m a a' → VL m (laid a off l) (laid a' off l') := by
  induction l generalizing l' with
  | nil =>
    intro a a' off ha;cases l' with
    | nil => exact ha
    | cons _ _ => exact absurd h.1 (by simp)
  | cons v l ih =>
    intro a a' off ha;cases l' with
    | nil => exact absurd h.1 (by simp)
    | cons v' l' =>
      have h0 : VR m v v' := by have := h.2 0; simpa using this
      have ht : VL m l l' := ⟨by have := h.1; simpa using this, fun i => by have := h.2 (i + 1); simpa using this⟩;exact ih ht (off + 1) (ha.set off h0)
theorem foldl_laid (off : Nat) : ∀ (l : List Value) (k : Nat) (cs : Array Value),
    ((l.zipIdx k).foldl (fun (cs : Array Value) (x : Value × Nat) => cs.setIfInBounds (off + x.2) x.1) cs).toList = laid cs.toList (off + k) l
  | [], k, cs => rfl
  | v :: l, k, cs => by
    simp only [List.zipIdx_cons, List.foldl_cons];rw [foldl_laid off l (k + 1)];simp only [Array.toList_setIfInBounds, laid];rfl
inductive PR (m : Ab) : List (Nat × Value) → List (Nat × Value) → Prop
  | nil : PR m [] []
  | cons (i : Nat) {v v' : Value} {l l' : List (Nat × Value)} (h : VR m v v') (k : PR m l l') : PR m ((i, v) :: l) ((i, v') :: l')
theorem fillE_ok {m : Ab} (place : Nat → Option (Nat × Nat)) {ps ps' : List (Nat × Value)} (hp : PR m ps ps') : ∀ {cs : List Value} {cs' : Array Value} {r : List Value}, VL m cs cs'.toList → fillE place cs ps = some r →
    ∃ r' : Array Value, Instr.fill place cs' ps' = some r' ∧ VL m r r'.toList := by
  induction hp with
  | nil =>
    intro cs cs' r hv e;simp only [fillE, Option.some.injEq] at e;subst e;exact ⟨cs', rfl, hv⟩
  | cons i h _ ih =>
    rename_i v v' l l' _;intro cs cs' r hv e;simp only [fillE] at e;unfold Instr.fill;cases hpl : place i with
    | none => simp [hpl] at e
    | some q =>
      obtain ⟨off, size⟩ := q;simp only [hpl] at e;cases hc : (Nat.beq v.cells.size size && Nat.ble (off + v.cells.size) cs.length) with
      | false => simp [hc] at e
      | true =>
        simp only [hc, cond_true] at e;simp only [Bool.and_eq_true] at hc;have h1 := Nat.eq_of_beq_eq_true hc.1;have h2 := Nat.le_of_ble_eq_true hc.2;have hcl := h.cells;have e1 : v'.cells.size = v.cells.size := by have := hcl.1; simpa using this.symm
        have e2 : cs'.size = cs.length := by have := hv.1; simpa using this.symm
        have hcond : (decide (v'.cells.size ≠ size) || decide (off + v'.cells.size > cs'.size)) = false := by
          rw [e1, e2];simp only [Bool.or_eq_false_iff, decide_eq_false_iff_not];exact ⟨fun q => q h1, by omega⟩
        simp only [hcond, Bool.false_eq_true, if_false];refine ih ?_ e;have hf : (Array.foldl (fun (cs : Array Value) (x : Value × Nat) => match x with | (c, j) => cs.setIfInBounds (off + j) c) cs' v'.cells.zipIdx).toList = laid cs'.toList off v'.cells.toList := by
          rw [← Array.foldl_toList];simp only [Array.toList_zipIdx];exact foldl_laid off v'.cells.toList 0 cs'
        rw [hf];exact laid_vl hcl off hv
def placesE (P : Program) : List Field → Option (List (Nat × Nat))
  | [] => some []
  | f :: l => match P.info? f.type, placesE P l with
    | some i, some r => some ((f.offset, i.size) :: r)
    | _, _ => none
theorem placesE_run {P : Program} : ∀ {fs : List Field} {r : List (Nat × Nat)}, placesE P fs = some r → ∀ W, (fs.mapM (fun f : Field => (do pure (f.offset, ← sizeOf f.type) : Sem (Nat × Nat)))).run P W = .ok r W
  | [], r, h, W => by simp only [placesE, Option.some.injEq] at h; subst h; rfl
  | f :: l, r, h, W => by
    simp only [placesE] at h;split at h
    case h_2 => cases h
    rename_i i q hi hq;simp only [Option.some.injEq] at h;subst h;have := placesE_run hq W;simp only [List.mapM_cons, Sem.run_bind, rS hi, Result.andThen_ok, Sem.run_pure, this]
theorem placesE_arr {P : Program} {fs : Array Field} {r : List (Nat × Nat)} (h : placesE P fs.toList = some r) (W : World) :
    (fs.mapM (fun f : Field => (do pure (f.offset, ← sizeOf f.type) : Sem (Nat × Nat)))).run P W = .ok r.toArray W := by
  rw [Array.mapM_eq_mapM_toList];simp only [Sem.run_map, placesE_run h W, Result.andThen_ok]
def buildE (P : Program) (t : TypeId) (ps : List (Nat × Value)) : Option Value :=
  match P.info? t, P.underlying t with
  | some i, some (.struct fs) => match i.zero, placesE P fs.toList with
    | some z, some r => bif flat 4 z then (match fillE (fun k => r[k]?) z.cells.toList ps with
      | none => none
      | some cs => some (.agg ⟨cs⟩)) else none
    | _, _ => none
  | some i, some (.array _ e) => match i.zero, P.info? e with
    | some z, some inf => bif flat 4 z then (match fillE (fun k => some (k * inf.size, inf.size)) z.cells.toList ps with
      | none => none
      | some cs => some (.agg ⟨cs⟩)) else none
    | _, _ => none
  | _, _ => none
theorem buildE_ok {P : Program} {m : Ab} {t : Nat} {ps : List (Nat × Value)} {qs : Array (Nat × Value)} {v : Value} (h : buildE P t ps = some v) (hp : PR m ps qs.toList) :
    ∃ v', VR m v v' ∧ ∀ W, (Instr.build t qs).run P W = .ok v' W := by
  unfold buildE at h;split at h
  case h_3 => cases h
  case h_1 i fs hi hu =>
    split at h
    case h_2 => cases h
    rename_i z r hz hr;cases hf : flat 4 z with
    | false => simp [hf] at h
    | true =>
      simp only [hf, cond_true] at h;split at h
      case h_1 => cases h
      rename_i cs hcs;simp only [Option.some.injEq] at h;subst h;obtain ⟨r', e, hv⟩ := fillE_ok (fun k => r[k]?) hp (cs' := z.cells) (flat_vr m 4 z hf).cells hcs;refine ⟨.agg r', .of_agg hv, fun W => ?_⟩;simp only [Instr.build, Sem.run_bind, rZ hi hz, Result.andThen_ok, rU hu, placesE_arr hr W];simp only [List.getElem?_toArray, e, Sem.run_pure]
  case h_2 i n e hi hu =>
    split at h
    case h_2 => cases h
    rename_i z inf hz hin;cases hf : flat 4 z with
    | false => simp [hf] at h
    | true =>
      simp only [hf, cond_true] at h;split at h
      case h_1 => cases h
      rename_i cs hcs;simp only [Option.some.injEq] at h;subst h;obtain ⟨r', e, hv⟩ := fillE_ok (fun k => some (k * inf.size, inf.size)) hp (cs' := z.cells) (flat_vr m 4 z hf).cells hcs;refine ⟨.agg r', .of_agg hv, fun W => ?_⟩;simp only [Instr.build, Sem.run_bind, rZ hi hz, Result.andThen_ok, rU hu, rS hin, e, Sem.run_pure]
def assertE (P : Program) (x : Value) (t : TypeId) (ok : Bool) : Option Value :=
  match P.underlying t, x with
  | some (.interface _), _ => none
  | some _, .iface u v => match Nat.beq u t, ok with
    | true, true => some (.tuple #[v, .bool true])
    | true, false => some v
    | false, true => match P.info? t with
      | some i => match i.zero with
        | some z => bif flat 4 z then some (.tuple #[z, .bool false]) else none
        | none => none
      | none => none
    | false, false => none
  | _, _ => none
theorem vl2 {m : Ab} {a a' b b' : Value} (h : VR m a a') (k : VR m b b') : VR m (.tuple #[a, b]) (.tuple #[a', b']) :=
  .of_tup (.cons h (.cons k (.nil m)))
theorem assertE_ok {P : Program} {m : Ab} {x x' v : Value} {s t : Nat} {ok : Bool} (h : assertE P x t ok = some v) (hx : VR m x x') :
    ∃ v', VR m v v' ∧ ∀ W, (Instr.typeAssert x' s t ok).run P W = .ok v' W := by
  unfold assertE at h;split at h
  case h_1 => cases h
  case h_3 => cases h
  rename_i d u w hn hd;cases hx with
  | iface _ hw =>
    rename_i w';split at h
    case h_1 hb =>
      have := Nat.eq_of_beq_eq_true hb;subst this;simp only [Option.some.injEq] at h;subst h;refine ⟨.tuple #[w', .bool true], vl2 hw (.bool true), fun W => ?_⟩;cases d <;> first | (exact (hn _ rfl).elim) | simp [Instr.typeAssert, rU hd]
    case h_2 hb =>
      have := Nat.eq_of_beq_eq_true hb;subst this;simp only [Option.some.injEq] at h;subst h;refine ⟨w', hw, fun W => ?_⟩;cases d <;> first | (exact (hn _ rfl).elim) | simp [Instr.typeAssert, rU hd]
    case h_3 hb =>
      have hne : ¬ u = t := fun e => by subst e; simp at hb
      split at h
      case h_2 => cases h
      rename_i i hi;split at h
      case h_2 => cases h
      rename_i z hz;cases hf : flat 4 z with
      | false => simp [hf] at h
      | true =>
        simp only [hf, cond_true, Option.some.injEq] at h;subst h;refine ⟨.tuple #[z, .bool false], vl2 (flat_vr m 4 z hf) (.bool false), fun W => ?_⟩;cases d <;> first | (exact (hn _ rfl).elim) | simp [Instr.typeAssert, rU hd, hne, rZ hi hz]
    case h_4 => cases h
def nilNot (d : TypeDesc) (x y : Value) : Bool :=
  match d, x, y with
  | .pointer _, .pointer none, .pointer (some _) | .pointer _, .pointer (some _), .pointer none => true
  | .slice _, .slice none .., .slice (some _) .. | .slice _, .slice (some _) .., .slice none .. => true
  | .map .., .map none, .map (some _) | .map .., .map (some _), .map none => true
  | .func .., .nilFunc, .func .. | .func .., .func .., .nilFunc => true
  | .interface _, .nilIface, .iface .. | .interface _, .iface .., .nilIface => true
  | _, _, _ => false
def nilE (P : Program) (op : BinOp) (t : TypeId) (x y : Value) : Option Value :=
  match P.underlying t with
  | none => none
  | some d => match nilNot d x y, op with
    | true, .eql => some (.bool false)
    | true, .neq => some (.bool true)
    | _, _ => none
theorem nilE_ok {P : Program} {m : Ab} {op : BinOp} {t : Nat} {x x' y y' v : Value} (xo yo : Operand) (h : nilE P op t x y = some v) (hx : VR m x x') (hy : VR m y y') :
    ∃ v', VR m v v' ∧ ∀ W, (do eqGuard op t xo yo x' y'; binOp op t x' y' : Sem Value).run P W = .ok v' W := by
  unfold nilE at h;split at h
  case h_1 => cases h
  rename_i d hd;have key0 : nilNot d x y = true → ∀ (k : Nat) W, (Op.equalIn (k + 1) t x' y').run P W = .ok false W ∧ (eqGuard op t xo yo x' y').run P W = .ok () W := by
    intro hn k W;unfold nilNot at hn
    split at hn <;> (try (cases hn; done)) <;> cases hx <;> cases hy <;>
      exact ⟨by simp [Op.equalIn, rU hd], by cases op <;> rfl⟩
  have key : nilNot d x y = true → ∀ W, (Op.equal t x' y').run P W = .ok false W ∧ (eqGuard op t xo yo x' y').run P W = .ok () W := fun hn W => key0 hn 9999 W;have no : nilNot d x y = true → ∀ W, (binOp .eql t x' y').run P W = ((Op.equal t x' y').run P W).andThen (fun b w => .ok (.bool b) w) ∧ (binOp .neq t x' y').run P W = ((Op.equal t x' y').run P W).andThen (fun b w => .ok (.bool (!b)) w) := by
    intro hn W;unfold nilNot at hn;split at hn <;> (try (cases hn; done)) <;> cases hx <;> cases hy <;> exact ⟨by simp [binOp], by simp [binOp]⟩
  split at h
  case h_1 hn =>
    simp only [Option.some.injEq] at h;subst h;refine ⟨.bool false, .bool _, fun W => ?_⟩;simp only [Sem.run_bind, (key hn W).2, Result.andThen_ok, (no hn W).1, (key hn W).1]
  case h_2 hn =>
    simp only [Option.some.injEq] at h;subst h;refine ⟨.bool true, .bool _, fun W => ?_⟩;simp only [Sem.run_bind, (key hn W).2, Result.andThen_ok, (no hn W).2, (key hn W).1, Bool.not_false]
  case h_3 => cases h
def lenE (P : Program) (b : Builtin) (ts : Array TypeId) (x : Value) : Option Value :=
  match b, ts[0]? with
  | .len, some t => match P.underlying t, x with
    | some (.slice _), .slice _ n _ => some (.int .i64 n)
    | some (.array n _), _ => some (.int .i64 n)
    | _, _ => none
  | .cap, some t => match P.underlying t, x with
    | some (.slice _), .slice _ _ c => bif Nat.ble big c then none else some (.int .i64 c)
    | _, _ => none
  | _, _ => none
theorem lenE_ok {P : Program} {m : Ab} {b : Builtin} {ts : Array TypeId} {t : TypeId} {cs : Array Bool} {x x' v : Value} (h : lenE P b ts x = some v) (hx : VR m x x') :
    ∃ v', VR m v v' ∧ ∀ W, (builtin b ts t cs #[x']).run P W = .ok (.value v') W := by
  unfold lenE at h;split at h
  case h_3 => cases h
  case h_1 t0 ht =>
    split at h
    case h_3 => cases h
    case h_1 e a n c hu =>
      simp only [Option.some.injEq] at h;subst h;refine ⟨_, .int _ _, fun W => ?_⟩;cases hx <;> simp [builtin, Builtin.len_, ht, rU hu, goInt]
    case h_2 n e hu =>
      simp only [Option.some.injEq] at h;subst h;exact ⟨_, .int _ _, fun W => by simp [builtin, Builtin.len_, ht, rU hu, goInt]⟩
  case h_2 t0 ht =>
    split at h
    case h_2 => cases h
    rename_i e a n c hu;cases hb : Nat.ble big c with
    | true => simp [hb] at h
    | false =>
      simp only [hb, cond_false, Option.some.injEq] at h;subst h;refine ⟨_, .int _ _, fun W => ?_⟩;cases hx with
      | nils l c => simp [builtin, Builtin.cap_, ht, rU hu, goInt]
      | sl hr hc hl =>
        rw [capAt_small (ble_false hb)] at hc;subst hc;simp [builtin, Builtin.cap_, ht, rU hu, goInt]
def Ops (m : Ab) (ρ ρ' : Operand → Value) (o : Op) : Prop := ∀ x ∈ o.operands, VR m (ρ x) (ρ' x)
def sop (P : Program) (ρ : Operand → Value) : Op → Option Value
  | .move x | .assign x => some (ρ x)
  | .pick c a b => match ρ c with
    | .bool t => some (bif t then ρ a else ρ b)
    | _ => none
  | .nilCheck x => match ρ x with
    | .pointer (some a) => some (.pointer (some a))
    | .func (.func f) fs cs => some (.func (.func f) fs cs)
    | .iface t v => some (.iface t v)
    | _ => none
  | .fieldAddr s x f => fieldE P s (ρ x) f
  | .field t x f => fldE P t (ρ x) f
  | .indexAddr t x ix => idxE P t (ρ x) (ρ ix)
  | .index t x ix => idvE P t (ρ x) (ρ ix)
  | .slice t x lo hi mx => slcE P t (ρ x) (lo.map ρ) (hi.map ρ) (mx.map ρ)
  | .makeInterface t x => bif P.concrete t then some (.iface t (ρ x)) else none
  | .makeFunc (.func f) first captured => some (.func (.func f) ⟨first.toList.map ρ⟩ ⟨captured.toList.map ρ⟩)
  | .extract t ix => match ρ t with
    | .tuple vs => vs.toList[ix]?
    | _ => none
  | .build t ps => buildE P t (ps.toList.map fun (i, x) => (i, ρ x))
  | .typeAssert x _ t ok => assertE P (ρ x) t ok
  | .binOp op t x y _ => nilE P op t (ρ x) (ρ y)
  | .call { callee := .builtin b, args, argTypes } => match args.toList with
    | [x] => lenE P b argTypes (ρ x)
    | _ => none
  | _ => none
theorem pr_map {m : Ab} {ρ ρ' : Operand → Value} : ∀ (l : List (Nat × Operand)), (∀ x ∈ l.map (·.2), VR m (ρ x) (ρ' x)) → PR m (l.map fun (i, x) => (i, ρ x)) (l.map fun (i, x) => (i, ρ' x))
  | [], _ => .nil
  | (i, x) :: l, h => .cons i (h x (by simp)) (pr_map l fun y hy => h y (by simp only [List.map_cons, List.mem_cons]; exact .inr hy))
theorem ovr_map {m : Ab} {ρ ρ' : Operand → Value} : ∀ (o : Option Operand), (∀ x ∈ o.toArray, VR m (ρ x) (ρ' x)) → OVR m (o.map ρ) (o.map ρ')
  | none, _ => trivial
  | some x, h => h x (by simp)
theorem sop_ok {P : Program} {m : Ab} {ρ ρ' : Operand → Value} {o : Oper} {v : Value} (h : sop P ρ o.op = some v) (ho : Ops m ρ ρ' o.op) :
    ∃ v', VR m v v' ∧ ∀ W, (execOp ρ' o).run P W = .ok (.value v') W := by
  obtain ⟨dst, op, type, pos, after, guard⟩ := o;have one : ∀ {v : Value} {s : Sem Value}, (∃ v', VR m v v' ∧ ∀ W, s.run P W = .ok v' W) → ∃ v', VR m v v' ∧ ∀ W, (do pure (.value (← s)) : Sem Next).run P W = .ok (.value v') W := by
    rintro v s ⟨v', hr, hw⟩;exact ⟨v', hr, fun W => by simp [hw W]⟩
  simp only at h ho;unfold Ops at ho;cases op <;> simp only [Op.operands] at ho <;> simp only [sop] at h <;> simp only [execOp]
  case move x =>
    simp only [Option.some.injEq] at h; subst h;exact ⟨_, ho x (by simp), fun W => rfl⟩
  case assign x =>
    simp only [Option.some.injEq] at h; subst h;exact ⟨_, ho x (by simp), fun W => rfl⟩
  case pick c a b =>
    have h1 := ho c (by simp);have h2 := ho a (by simp);have h3 := ho b (by simp);split at h
    case h_2 => cases h
    rename_i t ht;rw [ht] at h1;simp only [Option.some.injEq] at h;subst h;have e : ρ' c = .bool t := by generalize ρ' c = q at h1; cases h1; rfl
    cases t
    · exact ⟨_, h3, fun W => by simp [e, asBool]⟩
    · exact ⟨_, h2, fun W => by simp [e, asBool]⟩
  case nilCheck x =>
    have h1 := ho x (by simp);generalize ρ' x = q at h1 ⊢;split at h
    case h_4 => cases h
    all_goals
      rename_i hx;rw [hx] at h1;simp only [Option.some.injEq] at h;subst h
    · cases h1 with
      | ptr hr => exact ⟨_, .ptr hr, fun W => rfl⟩
    · cases h1 with
      | func _ a b c d => exact ⟨_, .func _ a b c d, fun W => rfl⟩
    · cases h1 with
      | iface _ hv => exact ⟨_, .iface _ hv, fun W => rfl⟩
  case fieldAddr s x f => exact one (fieldE_ok h (ho x (by simp)))
  case field t x f => exact one (fldE_ok h (ho x (by simp)))
  case indexAddr t x ix => exact one (idxE_ok h (ho x (by simp)) (ho ix (by simp)))
  case index t x ix => exact one (idvE_ok h (ho x (by simp)) (ho ix (by simp)))
  case slice t x lo hi mx =>
    exact one (slcE_ok h (ho x (by simp)) (ovr_map lo fun y hy => ho y (by simp only [Array.mem_append]; exact .inl (.inl (.inr hy))))
      (ovr_map hi fun y hy => ho y (by simp only [Array.mem_append]; exact .inl (.inr hy))) (ovr_map mx fun y hy => ho y (by simp only [Array.mem_append]; exact .inr hy)))
  case makeInterface t x =>
    cases hc : P.concrete t with
    | false => simp [hc] at h
    | true =>
      simp only [hc, cond_true, Option.some.injEq] at h;subst h;exact one ⟨_, .iface t (ho x (by simp)), fun W => run_makeInterface W t (ρ' x) hc⟩
  case makeFunc fn first captured =>
    cases fn <;> simp only at h <;> (try (cases h; done))
    rename_i f;simp only [Option.some.injEq] at h;subst h;have h1 : VL m (first.toList.map ρ) (first.map ρ').toList := by
      rw [Array.toList_map]; exact .map _ fun x hx => ho x (Array.mem_append.2 (.inl (Array.mem_toList_iff.1 hx)))
    have h2 : VL m (captured.toList.map ρ) (captured.map ρ').toList := by
      rw [Array.toList_map]; exact .map _ fun x hx => ho x (Array.mem_append.2 (.inr (Array.mem_toList_iff.1 hx)))
    have a1 : VRs m ⟨first.toList.map ρ⟩ (first.map ρ') := VL.arr h1;have a2 : VRs m ⟨captured.toList.map ρ⟩ (captured.map ρ') := VL.arr h2;exact one ⟨_, .func f a1.1 a1.2 a2.1 a2.2, fun W => rfl⟩
  case extract t ix =>
    have h1 := ho t (by simp);split at h
    case h_2 => cases h
    rename_i vs hv;rw [hv] at h1;obtain ⟨vs', e, hl⟩ := h1.tup_inv;obtain ⟨v', e', hr⟩ := hl.get h;have e2 : vs'[ix]? = some v' := by rw [← Array.getElem?_toList]; exact e'
    exact one ⟨v', hr, fun W => by simp [Instr.extract, e, e2]⟩
  case build t ps =>
    refine one (buildE_ok h ?_);rw [Array.toList_map];exact pr_map ps.toList fun x hx => ho x (by simpa using hx)
  case typeAssert x s t ok => exact one (assertE_ok h (ho x (by simp)))
  case binOp op t x y _ => exact one (nilE_ok x y h (ho x (by simp)) (ho y (by simp)))
  case call c =>
    obtain ⟨callee, args, ts⟩ := c;cases callee <;> simp only at h <;> (try (cases h; done))
    rename_i b;split at h
    case h_2 => cases h
    rename_i x hx;have he : args = #[x] := by apply Array.ext'; simpa using hx
    subst he;obtain ⟨v', hr, hw⟩ := lenE_ok (t := type) (cs := #[x].map fun | .const _ => true | _ => false) h (ho x (by simp [Call.operands]));refine ⟨v', hr, fun W => ?_⟩;have := hw W;simp only [resolve, Sem.run_bind, Sem.run_pure, Result.andThen_ok, invoke];rw [show Array.map ρ' #[x] = #[ρ' x] from by simp];exact this
  all_goals (cases h)
theorem Sat.row {P : Program} {n0 : Nat} {m : Ab} {h : Hp} {W : World} (s : Sat P n0 m h W) {r r' : Nat} {cs : List Value} {t : TypeId} {op : Bool} (h1 : m.b r = some r') (e : h.get r = some (.row cs t op)) :
    ∃ c, W.heap[r']? = some (.cells c t (0, 0)) ∧ VL m cs (c.toList.take cs.length) ∧ cs.length ≤ c.size ∧ (op = false → cs.length = c.size) ∧
      (op = true → ∃ inf, P.info? t = some inf ∧ c.size = m.c r * inf.size) := by
  obtain ⟨ob, h2, h3⟩ := s.has r r' _ h1 e;have vl : ∀ c : Array Value, cs.length ≤ c.size → (∀ k, k < cs.length → VR m (cs.getD k undef) (c.getD k undef)) → VL m cs (c.toList.take cs.length) := by
    intro c hl hh;refine .of (by simp; omega) fun i v v' hv hv' => ?_;obtain ⟨hi, _⟩ := List.getElem?_eq_some_iff.1 hv;rw [List.getElem?_take, if_pos hi] at hv';have := hh i hi;rw [lgetD_some hv, agetD, lgetD_some hv'] at this;exact this
  cases h3 with
  | row t hl hh => exact ⟨_, h2, vl _ (Nat.le_of_eq hl) fun k _ => hh k, Nat.le_of_eq hl, fun _ => hl, fun e => by cases e⟩
  | opn t hi hc hl hh => exact ⟨_, h2, vl _ hl hh, hl, fun e => (by cases e), fun _ => ⟨_, hi, hc⟩⟩
theorem cell_of {W : World} {r k : Nat} {c : Array Value} {t : TypeId} {fz : Nat × Nat} {v : Value} (h : W.heap[r]? = some (.cells c t fz)) (hv : c.toList[k]? = some v) : W.cell? ⟨r, k, none⟩ = some v := by
  simp [World.cell?, h];rw [← Array.getElem?_toList]; exact hv
theorem notfrozen {W : World} {r k : Nat} {c : Array Value} {t : TypeId} (h : W.heap[r]? = some (.cells c t (0, 0))) : W.frozen? ⟨r, k, none⟩ = false := by
  simp [World.frozen?, h]
def cellsE (cs : List Value) (o n : Nat) : Option (List Value) := bif Nat.ble (o + n) cs.length then some ((cs.drop o).take n) else none
theorem cellsE_len {cs l : List Value} {o n : Nat} (h : cellsE cs o n = some l) : l.length = n ∧ o + n ≤ cs.length ∧ l = (cs.drop o).take n := by
  unfold cellsE at h;cases hb : Nat.ble (o + n) cs.length with
  | false => simp [hb] at h
  | true =>
    simp only [hb, cond_true, Option.some.injEq] at h;have := Nat.le_of_ble_eq_true hb;exact ⟨by rw [← h]; simp; omega, this, h.symm⟩
theorem cellsE_run {P : Program} {n0 : Nat} {m : Ab} {h : Hp} {W : World} (s : Sat P n0 m h W) {r r' : Nat} (hr : m.b r = some r') {cs : List Value} {t : TypeId} {op : Bool} (e : h.get r = some (.row cs t op)) {o n : Nat} {l : List Value}
    (hl : cellsE cs o n = some l) : ∃ l' : List Value, VL m l l' ∧ l'.length = n ∧ (loadCells ⟨r', o, none⟩ n).run P W = .ok l'.toArray W := by
  obtain ⟨c, h2, h3, h4, _, _⟩ := s.row hr e;obtain ⟨k1, k2, k3⟩ := cellsE_len hl;subst k3;have vl := (h3.drop o).take n;refine ⟨((c.toList.take cs.length).drop o).take n, vl, by rw [← vl.1, k1], ?_⟩;have hlen : (((c.toList.take cs.length).drop o).take n).length = n := by rw [← vl.1, k1]
  have := run_loadCells_list (P := P) (w := W) ⟨r', o, none⟩ (((c.toList.take cs.length).drop o).take n) (fun j v hv => by
    rw [add_none];refine cell_of h2 ?_;rw [List.getElem?_take] at hv;by_cases hj : j < n
    · rw [if_pos hj, List.getElem?_drop, List.getElem?_take] at hv;by_cases hk : o + j < cs.length
      · rw [if_pos hk] at hv; exact hv
      · omega
    · simp [hj] at hv)
  rw [hlen] at this;exact this
def loadE (P : Program) (h : Hp) (t : TypeId) (x : Value) : Option Value :=
  match x with
  | .pointer (some ⟨r, o, none⟩) => match h.get r with
    | some (.row cs _ _) => match P.underlying t with
      | none => none
      | some d => match isAggD d with
        | true => match P.info? t with
          | none => none
          | some i => match cellsE cs o i.size with
            | none => none
            | some l => some (.agg ⟨l⟩)
        | false => cs[o]?
    | _ => none
  | _ => none
theorem loadVar_ok {P : Program} {n0 : Nat} {m : Ab} {h : Hp} {W : World} (s : Sat P n0 m h W) {t : TypeId} {x x' v : Value} (e : loadE P h t x = some v) (hx : VR m x x') :
    ∃ v', VR m v v' ∧ (Instr.loadAt t x').run P W = .ok v' W := by
  unfold loadE at e;split at e
  case h_2 => cases e
  rename_i r o;split at e
  case h_2 => cases e
  rename_i cs tt op hg;cases hx with
  | ptr hr =>
    rename_i r';cases hu : P.underlying t with
    | none => simp [hu] at e
    | some d =>
      simp only [hu] at e;cases ha : isAggD d with
      | true =>
        simp only [ha] at e;cases hi : P.info? t with
        | none => simp [hi] at e
        | some i =>
          simp only [hi] at e;cases hc : cellsE cs o i.size with
          | none => simp [hc] at e
          | some l =>
            simp only [hc, Option.some.injEq] at e;subst e;obtain ⟨l', hv, _, hrun⟩ := cellsE_run s hr hg hc;refine ⟨.agg l'.toArray, .of_agg (by simpa using hv), ?_⟩;simp [Instr.loadAt, Instr.sureAddr, loadVar, rA hu, ha, rS hi, hrun]
      | false =>
        simp only [ha] at e;obtain ⟨c, h2, h3, h4, _, _⟩ := s.row hr hg;obtain ⟨v', hv', hvr⟩ := h3.get e;refine ⟨v', hvr, ?_⟩;have hc : W.cell? ⟨r', o, none⟩ = some v' := by
          refine cell_of h2 ?_;rw [List.getElem?_take] at hv';by_cases hk : o < cs.length
          · rw [if_pos hk] at hv'; exact hv'
          · simp [hk] at hv'
        simp [Instr.loadAt, Instr.sureAddr, loadVar, rA hu, ha, hc]
theorem run_storeCells {P : Program} {r o : Nat} {t : TypeId} : ∀ (vs : List Value) (i : Nat) (W : World) (c : Array Value), W.heap[r]? = some (.cells c t (0, 0)) → (∀ v ∈ vs, v.oneCell' = true) → o + i + vs.length ≤ c.size →
    ∃ W' c', (storeCells ⟨r, o, none⟩ vs i).run P W = .ok () W' ∧ W'.heap[r]? = some (.cells c' t (0, 0)) ∧ c'.toList = laid c.toList (o + i) vs ∧ (∀ k, k ≠ r → W'.heap[k]? = W.heap[k]?) ∧
      W'.heap.size = W.heap.size ∧ W'.os = W.os ∧ W'.tape = W.tape ∧ W'.output = W.output
  | [], i, W, c, hr, _, _ => ⟨W, c, rfl, hr, rfl, fun _ _ => rfl, rfl, rfl, rfl, rfl⟩
  | v :: vs, i, W, c, hr, h1, hl => by
    simp only [List.length_cons] at hl;have hlt : o + i < c.size := by omega
    have hcell : W.cell? ⟨r, o + i, none⟩ = some c[o + i] := cell_of hr (by simp [hlt]);have hr2 : (W.setCell ⟨r, o + i, none⟩ v).heap[r]? = some (.cells (c.setIfInBounds (o + i) v) t (0, 0)) := by
      simp [World.setCell, Array.getElem?_modify, hr]
    obtain ⟨W', c', e1, e2, e3, e4, e5, e6, e7, e8⟩ := run_storeCells (P := P) (o := o) vs (i + 1) (W.setCell ⟨r, o + i, none⟩ v) (c.setIfInBounds (o + i) v) hr2 (fun w hw => h1 w (by simp [hw])) (by simp; omega);refine ⟨W', c', ?_, e2, ?_, fun k hk => (e4 k hk).trans (Below.heap_setCell _ _ _ _ hk), e5.trans (by simp), e6, e7, e8⟩
    · simp only [storeCells, Sem.run_bind, add_none, run_store P W ⟨r, o + i, none⟩ v .plain (h1 v (by simp)), hcell, notfrozen hr, Bool.false_eq_true, if_false, Result.andThen_ok];exact e1
    · rw [e3]; simp [laid, Nat.add_assoc]
theorem oneCell_vr {m : Ab} {v v' : Value} (h : VR m v v') : v'.oneCell' = v.oneCell' := by cases h <;> rfl
theorem laid_len : ∀ (l a : List Value) (off : Nat), (laid a off l).length = a.length
  | [], _, _ => rfl
  | v :: l, a, off => by simp [laid, laid_len l]
def putE (h : Hp) (r o : Nat) (vs : List Value) : Option Hp :=
  match h.get r with
  | some (.row cs t op) => bif Nat.ble (o + vs.length) cs.length && vs.all Value.oneCell' && Nat.ble (r + 2) 18446744073709551615 then some (h.set (some (.row (laid cs o vs) t op)) r) else none
  | _ => none
theorem laid_take : ∀ (l a : List Value) (off n : Nat), off + l.length ≤ n → (laid a off l).take n = laid (a.take n) off l
  | [], _, _, _, _ => rfl
  | v :: l, a, off, n, h => by
    simp only [List.length_cons] at h;simp only [laid];rw [laid_take l _ (off + 1) n (by omega)];congr 1;rw [List.take_set]
theorem VL.row {P : Program} {m : Ab} {i : Nat} {cs cs' : List Value} {c c' : Array Value} {t : TypeId} {op : Bool} (hv : VL m cs' (c'.toList.take cs'.length)) (hl : cs'.length = cs.length) (hc : c'.size = c.size) (h4 : cs.length ≤ c.size)
    (h5 : op = false → cs.length = c.size) (h6 : op = true → ∃ inf, P.info? t = some inf ∧ c.size = m.c i * inf.size) : OR P m i (.row cs' t op) (.cells c' t (0, 0)) := by
  cases op with
  | false =>
    refine .row t (by rw [hl, hc]; exact h5 rfl) fun k => ?_;have := hv.2 k;rw [List.take_of_length_le (by simp; rw [hc, hl, h5 rfl]; exact Nat.le_refl _)] at this;rw [agetD]; exact this
  | true =>
    obtain ⟨inf, hi, e⟩ := h6 rfl;refine .opn t hi (by rw [hc]; exact e) (by rw [hl, hc]; exact h4) fun k hk => ?_;have := hv.2 k;rw [agetD];simp only [List.getD_eq_getElem?_getD, List.getElem?_take, hk, if_true] at this ⊢;exact this
theorem putE_ok {P : Program} {n0 : Nat} {m : Ab} {h h2 : Hp} {W : World} (s : Sat P n0 m h W) {r r' o : Nat} (h1 : m.b r = some r') {vs vs' : List Value} (e : putE h r o vs = some h2) (hv : VL m vs vs') :
    ∃ W', (storeCells ⟨r', o, none⟩ vs').run P W = .ok () W' ∧ St P n0 m m h h2 W W' := by
  unfold putE at e;split at e
  case h_2 => cases e
  rename_i cs t op hg;cases hb : (Nat.ble (o + vs.length) cs.length && vs.all Value.oneCell' && Nat.ble (r + 2) 18446744073709551615) with
  | false => simp [hb] at e
  | true =>
    simp only [hb, cond_true, Option.some.injEq] at e;simp only [Bool.and_eq_true] at hb;obtain ⟨⟨hb1, hb2⟩, hb3⟩ := hb;have hb1 := Nat.le_of_ble_eq_true hb1;have hb3 := Nat.le_of_ble_eq_true hb3;obtain ⟨c, h2', h3, h4, h5, h6⟩ := s.row h1 hg;have hone : ∀ v ∈ vs', v.oneCell' = true := by
      intro v' hv';obtain ⟨i, hi⟩ := List.getElem?_of_mem hv';have hi' : i < vs.length := by rw [hv.1]; exact (List.getElem?_eq_some_iff.1 hi).1
      obtain ⟨w, hw, hr⟩ := hv.get (List.getElem?_eq_getElem hi');rw [hi] at hw; cases hw;rw [oneCell_vr hr];exact List.all_eq_true.1 hb2 _ (List.getElem_mem hi')
    have hlen : vs'.length = vs.length := hv.1.symm;obtain ⟨W', c', e1, e2, e3, e4, e5, e6, e7, e8⟩ := run_storeCells (P := P) (r := r') (o := o) (t := t) vs' 0 W c h2' hone (by rw [hlen]; omega);refine ⟨W', e1, ?_⟩;subst e;have hcs : c'.size = c.size := by
      have := congrArg List.length e3;rw [laid_len] at this;simpa using this
    refine St.put s ⟨_, hg, rfl⟩ h1 (by omega) (VL.row ?_ (laid_len _ _ _) hcs h4 h5 h6) e2 e4 e5 e6 e7 e8;rw [e3, laid_len, laid_take _ _ _ _ (by rw [hlen]; omega)];exact laid_vl hv _ h3
def storeE (P : Program) (h : Hp) (t : TypeId) (x v : Value) : Option Hp :=
  match x, P.info? t with
  | .pointer (some ⟨r, o, none⟩), some i => bif Nat.beq v.cells.toList.length i.size then putE h r o v.cells.toList else none
  | _, _ => none
theorem storeE_ok {P : Program} {n0 : Nat} {m : Ab} {h h2 : Hp} {W : World} (s : Sat P n0 m h W) {t : TypeId} {x x' v v' : Value} (e : storeE P h t x v = some h2) (hx : VR m x x') (hv : VR m v v') :
    ∃ W', (Instr.storeAt t x' v').run P W = .ok () W' ∧ St P n0 m m h h2 W W' := by
  unfold storeE at e;split at e
  case h_2 => cases e
  rename_i r o i hi;cases hb : Nat.beq v.cells.toList.length i.size with
  | false => rw [hb] at e; cases e
  | true =>
    simp only [hb, cond_true] at e;have hb := Nat.eq_of_beq_eq_true hb;cases hx with
    | ptr hr =>
      obtain ⟨W', e2, e3⟩ := putE_ok s hr e hv.cells;refine ⟨W', ?_, e3⟩;have hs : v'.cells.size = i.size := by have := hv.cells.1; simp only [Array.length_toList] at this hb; omega
      simp [Instr.storeAt, Instr.sureAddr, storeVar, rS hi, hs, e2]
theorem cellsE_at {P : Program} {n0 : Nat} {m : Ab} {h : Hp} {W : World} (s : Sat P n0 m h W) {r r' : Nat} (hr : m.b r = some r') {cs : List Value} {t : TypeId} {op : Bool} (e : h.get r = some (.row cs t op)) {o n : Nat} {l : List Value}
    (hl : cellsE cs o n = some l) : ∃ l' : List Value, VL m l l' ∧ l'.length = n ∧ ∀ (j : Nat) v, l'[j]? = some v → W.cell? ((⟨r', o, none⟩ : Addr).add j) = some v := by
  obtain ⟨c, h2, h3, h4, _, _⟩ := s.row hr e;obtain ⟨k1, k2, k3⟩ := cellsE_len hl;subst k3;have vl := (h3.drop o).take n;refine ⟨((c.toList.take cs.length).drop o).take n, vl, by rw [← vl.1, k1], fun j v hv => ?_⟩;rw [add_none];refine cell_of h2 ?_;rw [List.getElem?_take] at hv;by_cases hj : j < n
  · rw [if_pos hj, List.getElem?_drop, List.getElem?_take] at hv;by_cases hk : o + j < cs.length
    · rw [if_pos hk] at hv; exact hv
    · omega
  · simp [hj] at hv
def ValR (P : Program) (n0 : Nat) (m : Ab) (h : Hp) (W : World) (s : Sem Value) (v : Value) (h' : Hp) : Prop :=
  ∃ m' W' v', s.run P W = .ok v' W' ∧ VR m' v v' ∧ St P n0 m m' h h' W W'
def UnitR (P : Program) (n0 : Nat) (m : Ab) (h : Hp) (W : World) (s : Sem Unit) (h' : Hp) : Prop :=
  ∃ m' W', s.run P W = .ok () W' ∧ St P n0 m m' h h' W W'
def NewR (P : Program) (m : Ab) (s : Sem Value) (vf : Nat → Value) (ao : AO) : Prop :=
  ∃ (ob : Obj) (vf' : Nat → Value), (∀ W : World, s.run P W = .ok (vf' W.heap.size) { W with heap := W.heap.push ob }) ∧ (∀ m2 i, m.le m2 → OR P m2 i ao ob) ∧
    ∀ (m2 : Ab) (i r : Nat), m2.b i = some r → VR m2 (vf i) (vf' r)
def ptrOf (i : Nat) : Value := .pointer (some ⟨i, 0, none⟩)
def slOf (l c : Nat) (i : Nat) : Value := .slice (some ⟨i, 0, none⟩) l c
def mapOf (i : Nat) : Value := .map (some i)
theorem run_newRow {P : Program} (t : TypeId) (cs : Array Value) (W : World) : (newRow t cs).run P W = .ok ⟨W.heap.size, 0, none⟩ { W with heap := W.heap.push (.cells cs t) } := by simp [newRow]
theorem orow {P : Program} {m : Ab} {cs : List Value} {cs' : Array Value} (t : TypeId) (hv : VL m cs cs'.toList) : ∀ m2 i, m.le m2 → OR P m2 i (.row cs t false) (.cells cs' t) :=
  fun m2 i hl => .row t (by have := hv.1; simpa using this) fun k => by rw [agetD]; exact (hv.2 k).mono hl
theorem box_new {P : Program} {m : Ab} {t : TypeId} {v v' : Value} (hv : VR m v v') : NewR P m (Instr.box t v') ptrOf (.row v.cells.toList t false) :=
  ⟨.cells v'.cells t, ptrOf, fun W => by simp only [Instr.box, newVar, Sem.run_bind, run_newRow, Result.andThen_ok, Sem.run_pure, ptrOf], orow t hv.cells, fun m2 i r h => .ptr h⟩
def zeroE (P : Program) (t : TypeId) : Option Value :=
  match P.info? t with
  | some i => match i.zero with
    | some z => bif flat 4 z && Nat.beq z.cells.toList.length i.size then some z else none
    | none => none
  | none => none
theorem zeroE_ok {P : Program} {t : TypeId} {z : Value} (e : zeroE P t = some z) : ∃ i, P.info? t = some i ∧ i.zero = some z ∧ z.cells.size = i.size ∧ ∀ m, VR m z z := by
  unfold zeroE at e;split at e
  case h_2 => cases e
  rename_i i hi;split at e
  case h_2 => cases e
  rename_i z' hz;cases hb : (flat 4 z' && Nat.beq z'.cells.toList.length i.size) with
  | false => rw [hb] at e; cases e
  | true =>
    rw [hb] at e;simp only [cond_true, Option.some.injEq] at e;subst e;simp only [Bool.and_eq_true] at hb;have := Nat.eq_of_beq_eq_true hb.2;exact ⟨i, hi, hz, by simpa using this, fun m => flat_vr m 4 z' hb.1⟩
theorem alloc_new {P : Program} {m : Ab} {t : TypeId} {z : Value} (hz : zeroE P t = some z) : NewR P m (Instr.alloc t true (.tuple #[])) ptrOf (.row z.cells.toList t false) := by
  obtain ⟨inf, hi, hz, _, hv⟩ := zeroE_ok hz;obtain ⟨ob, vf, h1, h2, h3⟩ := box_new (P := P) (t := t) (hv m);refine ⟨ob, vf, fun W => ?_, h2, h3⟩;rw [← h1];simp only [Instr.alloc, Instr.box, Sem.run_bind, rZ hi hz, Result.andThen_ok]
def rep (z : List Value) : Nat → List Value
  | 0 => []
  | n + 1 => z ++ rep z n
theorem rep_len (z : List Value) : ∀ n, (rep z n).length = n * z.length
  | 0 => by simp [rep]
  | n + 1 => by simp [rep, rep_len z n, Nat.succ_mul]; omega
theorem rep_get (z : List Value) : ∀ (n k : Nat), k < n * z.length → (rep z n)[k]? = z[k % z.length]?
  | 0, k, h => by simp at h
  | n + 1, k, h => by
    simp only [rep];rw [List.getElem?_append];by_cases hk : k < z.length
    · rw [if_pos hk, Nat.mod_eq_of_lt hk]
    · rw [if_neg hk, rep_get z n (k - z.length) (by rw [Nat.succ_mul] at h; omega)];rw [← Nat.mod_eq_sub_mod (by omega)]
theorem rep_zero {n : Nat} {z : Array Value} : ((Array.range (n * z.size)).map (fun k => z[k % z.size]!)).toList = rep z.toList n := by
  apply List.ext_getElem?;intro k;by_cases hk : k < n * z.size
  · rw [rep_get _ _ _ (by simpa using hk)];have hz : 0 < z.size := by
      rcases Nat.eq_zero_or_pos z.size with h | h
      · rw [h] at hk; simp at hk
      · exact h
    have hm : k % z.size < z.size := Nat.mod_lt _ hz;simp [hk, hm]
  · rw [List.getElem?_eq_none (by simp; omega), List.getElem?_eq_none (by rw [rep_len]; simp; omega)]
theorem rep_vl {m : Ab} {z z' : List Value} (h : VL m z z') : ∀ n, VL m (rep z n) (rep z' n)
  | 0 => .nil m
  | n + 1 => h.append (rep_vl h n)
def makeSliceE (P : Program) (t : TypeId) (l c : Value) : Option ((Nat → Value) × AO) :=
  match P.underlying t, l, c with
  | some (.slice e), .int _ (.ofNat l), .int _ (.ofNat c) => match zeroE P e, P.info? e with
    | some z, some inf => bif Nat.ble l c && Nat.ble (inf.bytes * c) 281474976710656 && Nat.ble c 281474976710656 then some (slOf l c, .row (rep z.cells.toList c) e false) else none
    | _, _ => none
  | _, _, _ => none
theorem wrap_small {n : Nat} (h : n ≤ 281474976710656) : IntKind.i64.wrap (n : Int) = n := by
  have e : (n : Int) % 18446744073709551616 = n := Int.emod_eq_of_lt (by omega) (by omega);have d : ¬ (9223372036854775808 ≤ (n : Int)) := by omega
  simp [IntKind.wrap, IntKind.bits, IntKind.signed, e, d]
theorem makeSliceE_ok {P : Program} {m : Ab} {t : TypeId} {l c l' c' : Value} {vf : Nat → Value} {ao : AO} (e : makeSliceE P t l c = some (vf, ao)) (hl : VR m l l') (hc : VR m c c') :
    NewR P m (Instr.makeSlice t l' c') vf ao := by
  unfold makeSliceE at e;split at e
  case h_2 => cases e
  rename_i el k1 ln k2 cn hu;split at e
  case h_2 => cases e
  rename_i z inf hz hi;cases hb : (Nat.ble ln cn && Nat.ble (inf.bytes * cn) 281474976710656 && Nat.ble cn 281474976710656) with
  | false => rw [hb] at e; cases e
  | true =>
    rw [hb] at e;simp only [cond_true] at e;simp only [Bool.and_eq_true] at hb;have b1 := Nat.le_of_ble_eq_true hb.1.1;have b2 := Nat.le_of_ble_eq_true hb.1.2;have b3 := Nat.le_of_ble_eq_true hb.2;simp only [Option.some.injEq, Prod.mk.injEq] at e;obtain ⟨rfl, rfl⟩ := e;obtain ⟨inf', hi', hz', hsz, hv⟩ := zeroE_ok hz;rw [hi] at hi'; cases hi';cases hl
    cases hc
    have hrow : ∀ q : Array Value, q.toList = rep z.cells.toList cn → VL m (rep z.cells.toList cn) q.toList := fun q hq => by rw [hq]; exact rep_vl (hv m).cells cn
    obtain ⟨q, hq⟩ : ∃ q : Array Value, q.toList = rep z.cells.toList cn := ⟨⟨rep z.cells.toList cn⟩, rfl⟩;refine ⟨.cells q el, slOf ln cn, fun W => ?_, orow el (hrow q hq), fun m2 i r hr => .sl hr (by rw [capAt_small (by simp only [big]; omega)]) b1⟩;have e1 := run_newRow (P := P) el q W;have w1 := wrap_small b3;have w2 := wrap_small (Nat.le_trans b1 b3);have t1 : ¬ (281474976710656 < (inf.bytes : Int) * (cn : Int)) := by
      have : ((inf.bytes * cn : Nat) : Int) ≤ 281474976710656 := by omega
      rw [Int.natCast_mul] at this;omega
    have t2 : ¬ ((ln : Int) > (cn : Int)) := by omega
    have t3 : ¬ (((cn : Int) < 0 ∨ (ln : Int) < 0) ∨ cn < ln) := by omega
    simp only [Instr.makeSlice, Sem.run_bind, rU hu, Result.andThen_ok, asInt, asIntOf, Sem.run_pure, rI hi, Int.ofNat_eq_natCast, w1, w2, Int.toNat_natCast];simp [t1, t3, rS hi];by_cases h0 : cn * inf.size = 0
    · have hq0 : q = #[] := by
        apply Array.ext';rw [hq];exact List.eq_nil_of_length_eq_zero (by rw [rep_len]; simp [hsz, h0])
      rw [if_pos h0];have hmap : ∀ f : Nat → Value, Array.map f (Array.range 0) = q := fun f => by rw [hq0]; apply Array.ext'; simp
      rw [h0, hmap, e1];rfl
    · rw [if_neg h0];simp only [rZ hi hz', Result.andThen_ok];have hq1 : (Array.range (cn * inf.size)).map (fun x => z.cells[x % z.cells.size]!) = q := by
        apply Array.ext';rw [hq, ← hsz];exact rep_zero
      rw [hq1, e1];rfl
def buildSliceE (P : Program) (t : TypeId) (n : Nat) (ps : List (Nat × Value)) : Option ((Nat → Value) × AO) :=
  match P.underlying t with
  | some (.slice e) => match zeroE P e, P.info? e with
    | some z, some inf => bif Nat.ble (n * inf.size) 16777216 && Nat.ble n 16777216 then
        (match fillE (fun k => some (k * inf.size, inf.size)) (rep z.cells.toList n) ps with
          | none => none
          | some cs => some (slOf n n, .row cs e false)) else none
    | _, _ => none
  | _ => none
theorem buildSliceE_ok {P : Program} {m : Ab} {t : TypeId} {n : Nat} {ps : List (Nat × Value)} {qs : Array (Nat × Value)} {vf : Nat → Value} {ao : AO}
    (e : buildSliceE P t n ps = some (vf, ao)) (hp : PR m ps qs.toList) : NewR P m (Instr.buildSlice t n qs) vf ao := by
  unfold buildSliceE at e;split at e
  case h_2 => cases e
  rename_i el hu;split at e
  case h_2 => cases e
  rename_i z inf hz hi;cases hb : (Nat.ble (n * inf.size) 16777216 && Nat.ble n 16777216) with
  | false => rw [hb] at e; cases e
  | true =>
    rw [hb] at e;simp only [cond_true] at e;simp only [Bool.and_eq_true] at hb;have b1 := Nat.le_of_ble_eq_true hb.1;have b2 := Nat.le_of_ble_eq_true hb.2;split at e
    case h_1 => cases e
    rename_i cs hcs;simp only [Option.some.injEq, Prod.mk.injEq] at e;obtain ⟨rfl, rfl⟩ := e;obtain ⟨inf', hi', hz', hsz, hv⟩ := zeroE_ok hz;rw [hi] at hi'; cases hi';obtain ⟨q, hq⟩ : ∃ q : Array Value, q.toList = rep z.cells.toList n := ⟨⟨rep z.cells.toList n⟩, rfl⟩;obtain ⟨r', f1, f2⟩ := fillE_ok (fun k => some (k * inf.size, inf.size)) hp (cs := rep z.cells.toList n) (cs' := q) (by rw [hq]; exact rep_vl (hv m).cells n) hcs;refine ⟨.cells r' el, slOf n n, fun W => ?_, orow el f2, fun m2 i r hr => .sl hr (by rw [capAt_small (by simp only [big]; omega)]) (Nat.le_refl _)⟩;have e1 := run_newRow (P := P) el r' W
    have t0 : ¬ (n * inf.size > 2 ^ 24) := by have : (2 : Nat) ^ 24 = 16777216 := by decide
                                              omega
    by_cases h0 : n * inf.size = 0
    · have hq0 : (Array.range (n * inf.size)).map (fun x => (#[] : Array Value)[x % (#[] : Array Value).size]!) = q := by
        apply Array.ext';rw [hq];rw [List.eq_nil_of_length_eq_zero (show (rep z.cells.toList n).length = 0 by rw [rep_len]; simp [hsz, h0])];simp [h0]
      simp only [Instr.buildSlice, Sem.run_bind, rU hu, Result.andThen_ok, rS hi, Sem.run_ite, h0, if_true, Sem.run_pure];rw [h0] at hq0;simp only [hq0, f1, Sem.run_bind, e1, Result.andThen_ok, Sem.run_pure];rw [if_neg (by decide)];rfl
    · have hq1 : (Array.range (n * inf.size)).map (fun x => z.cells[x % z.cells.size]!) = q := by
        apply Array.ext';rw [hq, ← hsz];exact rep_zero
      simp only [Instr.buildSlice, Sem.run_bind, rU hu, Result.andThen_ok, rS hi, Sem.run_ite, t0, if_false, h0, Sem.run_pure, rZ hi hz', hq1, f1, e1, slOf]
def firstE (h : Hp) (size n : Nat) (x : Value) : Option (List Value) :=
  match x with
  | .slice (some ⟨r, o, none⟩) _ _ => match h.get r with
    | some (.row cs _ _) => cellsE cs o (n * size)
    | _ => none
  | .slice none _ _ => bif Nat.beq n 0 then some [] else none
  | _ => none
theorem firstE_ok {P : Program} {n0 : Nat} {m : Ab} {h : Hp} {W : World} (s : Sat P n0 m h W) {size n : Nat} {x x' : Value} {l : List Value} (e : firstE h size n x = some l) (hx : VR m x x') :
    ∃ l' : List Value, VL m l l' ∧ l'.length = n * size ∧ ∀ W' : World, (∀ a v, W.cell? a = some v → W'.cell? a = some v) → (Builtin.firstCells size n x').run P W' = .ok l'.toArray W' := by
  unfold firstE at e;split at e
  case h_3 => cases e
  case h_2 a b =>
    cases hb : Nat.beq n 0 with
    | false => rw [hb] at e; cases e
    | true =>
      rw [hb] at e;simp only [cond_true, Option.some.injEq] at e;subst e;have := Nat.eq_of_beq_eq_true hb;subst this;cases hx
      exact ⟨[], .nil m, by simp, fun W' _ => by simp [Builtin.firstCells]⟩
  case h_1 r o ln cp =>
    split at e
    case h_2 => cases e
    rename_i cs t op hg;cases hx with
    | sl hr hc hl =>
      obtain ⟨l', h2, h3, h4⟩ := cellsE_at s hr hg e;exact ⟨l', h2, h3, fun W' hk => run_firstCells_some (P := P) W' size n _ _ _ l' h3 fun j v hv => hk _ _ (h4 j v hv)⟩
def growE (h : Hp) (i : Nat) (e : TypeId) (gone : Option Nat) (cs : List Value) : Option Hp :=
  match h.get i with
  | some _ => none
  | none => bif Nat.ble (i + 2) 18446744073709551615 then
      (match gone with
      | none => some (h.set (some (.row cs e true)) i)
      | some r => bif Nat.ble (r + 2) 18446744073709551615 then some ((h.set (some .gone) r).set (some (.row cs e true)) i) else none) else none
def appE (P : Program) (h : Hp) (i : Nat) (ts : Array TypeId) (s x : Value) : Option (Value × Hp) :=
  match ts[0]?, ts[1]? with
  | some t, some u => bif Nat.beq t u then (match P.underlying t, s, x with
    | some (.slice e), .slice base sl sc, .slice _ n _ => match P.info? e, zeroE P e with
      | some inf, some _ => bif Nat.beq n 0 then (match firstE h inf.size 0 x with
          | some [] => (match base with
            | some _ => some (.slice base sl sc, h)
            | none => bif Nat.ble sl sc then some (.slice none sl sc, h) else none)
          | _ => none)
        else bif Nat.ble (sl + n) 9223372036854775807 && Nat.ble ((sl + n) * inf.bytes) 140737488355328 && Nat.ble 1 inf.size then
        (match firstE h inf.size n x with
        | none => none
        | some new => match base with
          | none => bif Nat.beq sl 0 && Nat.beq sc 0 then (match growE h i e none new with
              | some h' => some (.slice (some ⟨i, 0, none⟩) n big, h')
              | none => none) else none
          | some ⟨r, o, none⟩ => match Nat.ble big sc with
            | true => match h.get r with
              | some (.row cs e' true) => bif Nat.beq e e' && Nat.beq o 0 && Nat.beq sc big && Nat.beq cs.length (sl * inf.size) && new.all Value.oneCell' then
                  (match growE h i e (some r) (cs ++ new) with
                  | some h' => some (.slice (some ⟨i, 0, none⟩) (sl + n) big, h')
                  | none => none) else none
              | _ => none
            | false => match Nat.ble (sl + n) sc with
              | true => match putE h r (o + sl * inf.size) new with
                | some h' => some (.slice (some ⟨r, o, none⟩) (sl + n) sc, h')
                | none => none
              | false => match firstE h inf.size sl s with
                | none => none
                | some old => match growE h i e none (old ++ new) with
                  | some h' => some (.slice (some ⟨i, 0, none⟩) (sl + n) big, h')
                  | none => none
          | _ => none) else none
      | _, _ => none
    | _, _, _ => none) else none
  | _, _ => none
theorem get_set_ne {h : Hp} {o : Option AO} {i j : Nat} (hi : i + 1 < 2 ^ 64) (hj : j ≠ i) : (h.set o i).get j = h.get j := by rw [Tr.get_set _ _ _ _ hi, if_neg hj]
theorem get_set_eq {h : Hp} {o : Option AO} {i : Nat} (hi : i + 1 < 2 ^ 64) : (h.set o i).get i = o := by rw [Tr.get_set _ _ _ _ hi, if_pos rfl]
theorem St.lose {P : Program} {n0 : Nat} {m : Ab} {h : Hp} {W : World} (s : Sat P n0 m h W) {r r' : Nat} (hr : m.b r = some r') (hb : r + 1 < 2 ^ 64) : St P n0 m m h (h.set (some .gone) r) W W := by
  have lv : ∀ j, live (h.set (some .gone) r) j → live h j ∧ j ≠ r := fun j hj => by
    rw [live_set hb] at hj;rcases hj with ⟨_, hh⟩ | ⟨nj, lj⟩
    · cases hh
    · exact ⟨lj, nj⟩
  refine ⟨⟨m.le_refl, ⟨?_, fun j k q hj hk => s.inj j k q (lv j hj).1 (lv k hk).1, fun j q hj => s.low j q (lv j hj).1, ?_, s.base⟩, rfl, rfl, rfl, Nat.le_refl _, fun _ _ _ => rfl, fun j q hj e => .inr ⟨j, (lv j hj).1, e⟩⟩, fun j o' h1 h2 => ?_⟩
  · intro j q o' e1 e;by_cases ej : j = r
    · subst ej;rw [get_set_eq hb] at e;cases e
      have hd := s.dom j r' hr;cases hg : h.get j with
      | none => rw [hg] at hd; cases hd
      | some o2 =>
        obtain ⟨ob, e2, _⟩ := s.has j q o2 e1 hg;exact ⟨ob, e2, .gone _⟩
    · rw [get_set_ne hb ej] at e;exact s.has j q o' e1 e
  · intro j q ej;by_cases e : j = r
    · subst e; rw [get_set_eq hb]; rfl
    · rw [get_set_ne hb e]; exact s.dom j q ej
  · have ej : j ≠ r := fun e => by rw [e, hr] at h1; cases h1
    exact ⟨by rw [get_set_ne hb ej]; exact h2, h1⟩
theorem St.alias {P : Program} {n0 : Nat} {m : Ab} {h : Hp} {W W' : World} (s : Sat P n0 m h W) {i r r' c : Nat} (hi : h.get i = none) (hib : i + 1 < 2 ^ 64) (lr : live h r) (hr : m.b r = some r') (hb : r + 1 < 2 ^ 64) {o : AO} {ob : Obj}
    (ho : OR P (m.add i r' c) i o ob) (hw : W'.heap[r']? = some ob) (hx : ∀ k, k ≠ r' → W'.heap[k]? = W.heap[k]?) (hs : W'.heap.size = W.heap.size)
    (h1 : W'.os = W.os) (h2 : W'.tape = W.tape) (h3 : W'.output = W.output) : St P n0 m (m.add i r' c) h ((h.set (some .gone) r).set (some o) i) W W' := by
  have hf := s.fresh hi;have hle : m.le (m.add i r' c) := Ab.le_add hf;have hri : r ≠ i := fun e => by obtain ⟨o', e1, _⟩ := lr; rw [e, hi] at e1; cases e1
  have lv : ∀ j, live ((h.set (some .gone) r).set (some o) i) j → j = i ∨ (j ≠ i ∧ j ≠ r ∧ live h j) := fun j hj => by
    rw [live_set hib] at hj;rcases hj with ⟨e, _⟩ | ⟨nj, lj⟩
    · exact .inl e
    · rw [live_set hb] at lj;rcases lj with ⟨_, hh⟩ | ⟨nr, lj⟩
      · cases hh
      · exact .inr ⟨nj, nr, lj⟩
  refine ⟨⟨hle, ⟨?_, ?_, ?_, ?_, by rw [hs]; exact s.base⟩, h1, h2, h3, Nat.le_of_eq hs.symm, ?_, ?_⟩, ?_⟩
  · intro j q o' e1 e;by_cases ej : j = i
    · subst ej;rw [get_set_eq hib] at e;cases e
      simp only [Ab.add, if_true, Option.some.injEq] at e1;subst e1;exact ⟨ob, hw, ho⟩
    · rw [get_set_ne hib ej] at e;simp only [Ab.add, ej, if_false] at e1;by_cases er : j = r
      · subst er;rw [get_set_eq hb] at e;cases e
        rw [hr] at e1; cases e1;exact ⟨ob, hw, .gone _⟩
      · rw [get_set_ne hb er] at e;obtain ⟨ob', e2, e3⟩ := s.has j q o' e1 e;by_cases hq : q = r'
        · by_cases hh : o'.here = true
          · exact absurd (s.inj j r r' ⟨o', e, hh⟩ lr (hq ▸ e1) hr) er
          · cases o' <;> simp [AO.here] at hh
            exact ⟨ob, by rw [hq]; exact hw, .gone _⟩
        · exact ⟨ob', by rw [hx q hq]; exact e2, e3.mono hle e1⟩
  · intro j k q hj hk ej ek;simp only [Ab.add] at ej ek;rcases lv j hj with rfl | ⟨nj, nrj, lj⟩ <;> rcases lv k hk with rfl | ⟨nk, nrk, lk⟩
    · rfl
    · simp only [if_true, Option.some.injEq, nk, if_false] at ej ek;subst ej;exact absurd (s.inj k r r' lk lr ek hr) nrk
    · simp only [if_true, Option.some.injEq, nj, if_false] at ej ek;subst ek;exact absurd (s.inj j r r' lj lr ej hr) nrj
    · simp only [nj, nk, if_false] at ej ek;exact s.inj j k q lj lk ej ek
  · intro j q hj ej;simp only [Ab.add] at ej;rcases lv j hj with rfl | ⟨nj, _, lj⟩
    · simp only [if_true, Option.some.injEq] at ej;subst ej;exact s.low r r' lr hr
    · simp only [nj, if_false] at ej;exact s.low j q lj ej
  · intro j q ej;by_cases e : j = i
    · subst e; rw [get_set_eq hib]; rfl
    · rw [get_set_ne hib e];by_cases er : j = r
      · subst er; rw [get_set_eq hb]; rfl
      · rw [get_set_ne hb er];simp only [Ab.add, e, if_false] at ej;exact s.dom j q ej
  · intro q _ hn;exact hx q fun e => hn r lr (by rw [e]; exact hr)
  · intro j q hj ej;simp only [Ab.add] at ej;rcases lv j hj with rfl | ⟨nj, _, lj⟩
    · simp only [if_true, Option.some.injEq] at ej;subst ej;exact .inr ⟨r, lr, hr⟩
    · simp only [nj, if_false] at ej;exact .inr ⟨j, lj, ej⟩
  · intro j o' h1 h2;have ej : j ≠ i := fun e => by rw [e, hi] at h2; cases h2
    have er : j ≠ r := fun e => by rw [e, hr] at h1; cases h1
    exact ⟨by rw [get_set_ne hib ej, get_set_ne hb er]; exact h2, by simp [Ab.add, ej, h1]⟩
theorem growE_new {P : Program} {n0 : Nat} {m : Ab} {h h' : Hp} {W : World} (s : Sat P n0 m h W) {i : Nat} {e : TypeId} {inf : TypeInfo} (hi : P.info? e = some inf) {gone : Option Nat} (hg : ∀ r, gone = some r → live h r ∧ ∃ r', m.b r = some r') {cs cs' : List Value} {rest : List Value}
    (ge : growE h i e gone cs = some h') (hv : VL m cs cs') (cap : Nat) (hsz : cs'.length + rest.length = cap * inf.size) :
    St P n0 m (m.add i W.heap.size cap) h h' W (W.drew.alloc (.cells (cs'.toArray ++ rest.toArray) e)) ∧ (m.add i W.heap.size cap).b i = some W.heap.size ∧ (m.add i W.heap.size cap).c i = cap := by
  unfold growE at ge;split at ge
  case h_1 => cases ge
  rename_i hgi;cases hb : Nat.ble (i + 2) 18446744073709551615 with
  | false => rw [hb] at ge; cases ge
  | true =>
    rw [hb] at ge;simp only [cond_true] at ge;have hb := Nat.le_of_ble_eq_true hb;have orr : ∀ mm : Ab, mm.b i = none → VL mm cs cs' → OR P (mm.add i W.heap.size cap) i (.row cs e true) (.cells (cs'.toArray ++ rest.toArray) e) := by
      intro mm hf hv;refine .opn e hi (by simp [Ab.add, hsz]) (by simp [hv.1]) fun k hk => ?_;have := (hv.2 k).mono (Ab.le_add (i := i) (r := W.heap.size) (c := cap) hf);rw [agetD];simp only [Array.toList_append, List.getD_eq_getElem?_getD] at this ⊢;rw [List.getElem?_append_left (by rw [← hv.1]; exact hk)];exact this
    refine ⟨?_, by simp [Ab.add], by simp [Ab.add]⟩;have s1 := St.drew s;cases gone with
    | none =>
      simp only [Option.some.injEq] at ge;subst ge;exact s1.trans (St.new s1.sat hgi (by omega) cap (orr m (s.fresh hgi) hv))
    | some r =>
      simp only at ge;cases hb2 : Nat.ble (r + 2) 18446744073709551615 with
      | false => rw [hb2] at ge; cases ge
      | true =>
        rw [hb2] at ge;simp only [cond_true, Option.some.injEq] at ge;subst ge;have hb2 := Nat.le_of_ble_eq_true hb2;obtain ⟨⟨o, e1, _⟩, r', e2⟩ := hg r rfl;have hri : i ≠ r := fun q => by rw [← q, hgi] at e1; cases e1
        have s2 := St.lose s1.sat e2 (by omega);exact (s1.trans s2).trans (St.new s2.sat (by rw [get_set_ne (by omega) hri]; exact hgi) (by omega) cap (orr m (s.fresh hgi) hv))
theorem growE_in {P : Program} {n0 : Nat} {m : Ab} {h h' : Hp} {W : World} (s : Sat P n0 m h W) {i r : Nat} {e : TypeId} {inf : TypeInfo} (hi : P.info? e = some inf) {cs new new' : List Value} (hg : h.get r = some (.row cs e true))
    (ge : growE h i e (some r) (cs ++ new) = some h') (hv : VL m new new') (h1 : new.all Value.oneCell' = true) {r' : Nat} (hr : m.b r = some r') (hroom : cs.length + new.length ≤ m.c r * inf.size) :
    ∃ W', (storeCells ⟨r', cs.length, none⟩ new').run P W = .ok () W' ∧ St P n0 m (m.add i r' (m.c r)) h h' W W' ∧ (m.add i r' (m.c r)).b i = some r' ∧ (m.add i r' (m.c r)).c i = m.c r := by
  unfold growE at ge;split at ge
  case h_1 => cases ge
  rename_i hgi;cases hb : Nat.ble (i + 2) 18446744073709551615 with
  | false => rw [hb] at ge; cases ge
  | true =>
    rw [hb] at ge;simp only [cond_true] at ge;have hb := Nat.le_of_ble_eq_true hb;cases hb2 : Nat.ble (r + 2) 18446744073709551615 with
    | false => rw [hb2] at ge; cases ge
    | true =>
      rw [hb2] at ge;simp only [cond_true, Option.some.injEq] at ge;subst ge;have hb2 := Nat.le_of_ble_eq_true hb2;obtain ⟨c, k2, k3, k4, _, k6⟩ := s.row hr hg;obtain ⟨inf', j1, j2⟩ := k6 rfl;rw [hi] at j1; cases j1;have hone : ∀ v ∈ new', v.oneCell' = true := by
        intro v' hv';obtain ⟨k, hk⟩ := List.getElem?_of_mem hv';have hk' : k < new.length := by rw [hv.1]; exact (List.getElem?_eq_some_iff.1 hk).1
        obtain ⟨w, hw, hrr⟩ := hv.get (List.getElem?_eq_getElem hk');rw [hk] at hw; cases hw;rw [oneCell_vr hrr];exact List.all_eq_true.1 h1 _ (List.getElem_mem hk')
      obtain ⟨W', c', e1, e2, e3, e4, e5, e6, e7, e8⟩ := run_storeCells (P := P) (r := r') (o := cs.length) (t := e) new' 0 W c k2 hone (by rw [← hv.1]; omega);refine ⟨W', e1, ?_, by simp [Ab.add], by simp [Ab.add]⟩;have hcs : c'.size = c.size := by have := congrArg List.length e3; rw [laid_len] at this; simpa using this
      have hle : m.le (m.add i r' (m.c r)) := Ab.le_add (s.fresh hgi);refine St.alias s hgi (by omega) ⟨_, hg, rfl⟩ hr (by omega) (.opn e hi (by simp [Ab.add, hcs, j2]) (by simp [hcs, j2]; omega) fun k hk => ?_) e2 e4 e5 e6 e7 e8;have hall : VL m (cs ++ new) (c'.toList.take (cs ++ new).length) := by
        refine .of (by simp [hcs, j2]; omega) fun k v v' hv1 hv2 => ?_;have hk : k < (cs ++ new).length := (List.getElem?_eq_some_iff.1 hv1).1;rw [List.getElem?_take, if_pos hk, e3] at hv2;have lg : ∀ (l : List Value) (a : List Value) (off k : Nat), off + l.length ≤ a.length → (laid a off l)[k]? = if off ≤ k ∧ k < off + l.length then l[k - off]? else a[k]? := by
          intro l
          induction l with
          | nil => intro a off k _; simp [laid]; omega
          | cons x l ih =>
            intro a off k hl;simp only [List.length_cons] at hl;simp only [laid];rw [ih _ _ _ (by simp; omega)];by_cases hk : k = off
            · subst hk;have : k < a.length := by omega
              rw [if_neg (by omega), if_pos (by simp only [List.length_cons]; omega), Nat.sub_self, List.getElem?_set_self this];rfl
            · by_cases h1 : off + 1 ≤ k ∧ k < off + 1 + l.length
              · rw [if_pos h1, if_pos (by simp only [List.length_cons]; omega)];have : k - off = (k - (off + 1)) + 1 := by omega
                rw [this]; simp
              · rw [if_neg h1, if_neg (by simp only [List.length_cons]; omega)];simp [Ne.symm hk]
        rw [lg _ _ _ _ (by simp [j2, ← hv.1]; omega)] at hv2;rw [List.getElem?_append] at hv1;simp only [List.length_append] at hk;by_cases hkl : k < cs.length
        · rw [if_pos hkl] at hv1;rw [if_neg (by omega)] at hv2;obtain ⟨w, hw, hrr⟩ := k3.get hv1;rw [List.getElem?_take, if_pos hkl, hv2] at hw;cases hw; exact hrr
        · rw [if_neg hkl] at hv1;rw [if_pos (by rw [← hv.1]; omega)] at hv2;obtain ⟨w, hw, hrr⟩ := hv.get hv1;simp only [Nat.add_zero] at hv2;rw [hv2] at hw;cases hw; exact hrr
      have := (hall.2 k).mono hle;rw [agetD];simp only [List.getD_eq_getElem?_getD, List.getElem?_take, hk, if_true] at this ⊢;exact this
theorem appE_ok {P : Program} {n0 : Nat} {m : Ab} {h h' : Hp} {W : World} (s : Sat P n0 m h W) {i : Nat} {ts : Array TypeId} {ty : TypeId} {x x' y y' w : Value} (e : appE P h i ts x y = some (w, h')) (hx : VR m x x') (hy : VR m y y') :
    ValR P n0 m h W (Builtin.append_ ts ty #[x', y']) w h' := by
  unfold appE at e;split at e
  case h_2 => cases e
  rename_i t u ht hu;cases hb : Nat.beq t u with
  | false => rw [hb] at e; cases e
  | true =>
    rw [hb] at e;simp only [cond_true] at e;have hb := Nat.eq_of_beq_eq_true hb;subst hb;split at e
    case h_2 => cases e
    rename_i el base sl sc yb n yc hut;split at e
    case h_2 => cases e
    rename_i inf z hi hz;obtain ⟨inf', hi', hz', hzs, hzv⟩ := zeroE_ok hz;rw [hi] at hi'; cases hi';cases hn : Nat.beq n 0 with
    | true =>
      rw [hn] at e;simp only [cond_true] at e;have hn := Nat.eq_of_beq_eq_true hn;subst hn;split at e
      case h_2 => cases e
      rename_i hf;obtain ⟨l', hv, hl, hrun⟩ := firstE_ok s hf hy;have hl' : l' = [] := List.eq_nil_of_length_eq_zero (by rw [hl]; simp);subst hl';have hrun := hrun W (fun _ _ h => h);have hlen : (Builtin.lenOf y').run P W = .ok 0 W := by cases hy <;> rfl
      have fin : ∀ (b' : Option Addr) (c' : Nat), sl ≤ c' → VR m (.slice base sl sc) (.slice b' sl c') → ValR P n0 m h W (Builtin.append_ ts ty #[.slice b' sl c', y']) (.slice base sl sc) h := by
        intro b' c' hc hvr;refine ⟨m, W, .slice b' sl c', ?_, hvr, St.refl s⟩;simp only [Builtin.append_, ht, hu];simp [rU hut, rS hi, hlen, hc, hrun];cases b' <;> simp [storeCells]
      split at e
      case h_1 =>
        simp only [Option.some.injEq, Prod.mk.injEq] at e;obtain ⟨rfl, rfl⟩ := e;cases hx with
        | sl hr hc hl => exact fin _ _ hl (.sl hr hc hl)
      case h_2 =>
        cases hb : Nat.ble sl sc with
        | false => rw [hb] at e; cases e
        | true =>
          rw [hb] at e;simp only [cond_true, Option.some.injEq, Prod.mk.injEq] at e;obtain ⟨rfl, rfl⟩ := e;cases hx with
          | nils => exact fin _ _ (Nat.le_of_ble_eq_true hb) (.nils _ _)
    | false =>
      rw [hn] at e;simp only [cond_false] at e;have hn : n ≠ 0 := fun q => by subst q; simp at hn
      cases hb : (Nat.ble (sl + n) 9223372036854775807 && Nat.ble ((sl + n) * inf.bytes) 140737488355328 && Nat.ble 1 inf.size) with
      | false => rw [hb] at e; cases e
      | true =>
        rw [hb] at e;simp only [cond_true] at e;simp only [Bool.and_eq_true] at hb;have b1 := Nat.le_of_ble_eq_true hb.1.1;have b2 := Nat.le_of_ble_eq_true hb.1.2;have b3 := Nat.le_of_ble_eq_true hb.2;split at e
        case h_1 => cases e
        rename_i new hf;obtain ⟨new', hv, hl, hrun⟩ := firstE_ok s hf hy;have hlen : (Builtin.lenOf y').run P W = .ok n W := by cases hy <;> rfl
        -- it is made anew
        have grown : ∀ (old old' : List Value) (b' : Option Addr) (c' : Nat) (gone : Option Nat) (h2 : Hp), VL m old old' → old'.length = sl * inf.size → c' < sl + n → (∀ r, gone = some r → live h r ∧ ∃ r', m.b r = some r') →
            (∀ W' : World, (∀ a v, W.cell? a = some v → W'.cell? a = some v) → (Builtin.firstCells inf.size sl (.slice b' sl c')).run P W' = .ok old'.toArray W') → growE h i el gone (old ++ new) = some h2 →
            ValR P n0 m h W (Builtin.append_ ts ty #[.slice b' sl c', y']) (.slice (some ⟨i, 0, none⟩) (sl + n) big) h2 := by
          intro old old' b' c' gone h2 ho hol hc hg hfo ge;have hge := grownCap_ge W (sl + n) c' el;obtain ⟨s1, s2, s3⟩ := growE_new (rest := (Builtin.zeroCells z.cells (grownCap W (sl + n) c' el - (sl + n))).toList) s hi hg ge (ho.append hv) (grownCap W (sl + n) c' el) (by
            simp only [List.length_append, hol, hl, Array.length_toList, Builtin.zeroCells, Array.size_map, Array.size_range, hzs];rw [← Nat.add_mul, ← Nat.add_mul];congr 1;omega)
          refine ⟨_, _, .slice (some ⟨W.heap.size, 0, none⟩) (sl + n) (grownCap W (sl + n) c' el), ?_, .sl s2 (by rw [capAt_big (Nat.le_refl _), s3]; omega) hge, s1⟩;have c1 : ¬ (sl + n ≤ c') := by omega
          have c2 : ¬ (9223372036854775807 < ((sl : Int) + (n : Int))) := by omega
          have c3 := growslice_fits (bytes := inf.bytes) hc b2;have c3' : ¬ (281474976710656 < Builtin.nextslicecap (sl + n) c' * inf.bytes) := by omega
          have f1 := hrun W.drew (fun _ _ h => h);have f2 := hfo W.drew (fun _ _ h => h);simp only [Builtin.append_, ht, hu];simp [rU hut, rS hi, rI hi, rZ hi hz', hlen, c1, c2, c3', Question.forced, f1, f2, newRow, grownCap];congr 2;apply Array.ext';simp
        -- it has room
        have room : ∀ (r' o c' : Nat) (h2 : Hp) (v : Value) (v' : Value), sl + n ≤ c' → (∃ m' W', (storeCells ⟨r', o + sl * inf.size, none⟩ new').run P W = .ok () W' ∧ VR m' v (.slice (some ⟨r', o, none⟩) (sl + n) c') ∧ St P n0 m m' h h2 W W') →
            ValR P n0 m h W (Builtin.append_ ts ty #[.slice (some ⟨r', o, none⟩) sl c', y']) v h2 := by
          rintro r' o c' h2 v v' hc ⟨m', W', e1, e2, e3⟩;refine ⟨m', W', _, ?_, e2, e3⟩;have f1 := hrun W (fun _ _ h => h);simp only [Builtin.append_, ht, hu];simp [rU hut, rS hi, hlen, hc, f1, add_none, e1]
        split at e
        case h_3 => cases e
        case h_1 =>
          cases hc : (Nat.beq sl 0 && Nat.beq sc 0) with
          | false => rw [hc] at e; cases e
          | true =>
            rw [hc] at e;simp only [cond_true] at e;simp only [Bool.and_eq_true] at hc;have hc1 := Nat.eq_of_beq_eq_true hc.1;have hc2 := Nat.eq_of_beq_eq_true hc.2;subst hc1;subst hc2;split at e
            case h_2 => cases e
            rename_i h2 ge;simp only [Option.some.injEq, Prod.mk.injEq] at e;obtain ⟨rfl, rfl⟩ := e;cases hx with
            | nils =>
              have := grown [] [] none 0 none h2 (.nil m) (by simp) (by omega) (fun r q => by cases q) (fun W' _ => by simp [Builtin.firstCells]) (by simpa using ge);simpa using this
        case h_2 r o =>
          cases hx with
          | sl hr hc hk =>
            rename_i r' c';split at e
            case h_1 hbig =>
              have hbig := Nat.le_of_ble_eq_true hbig;split at e
              case h_2 => cases e
              rename_i cs e' hg;cases hq : (Nat.beq el e' && Nat.beq o 0 && Nat.beq sc big && Nat.beq cs.length (sl * inf.size) && new.all Value.oneCell') with
              | false => rw [hq] at e; cases e
              | true =>
                rw [hq] at e;simp only [cond_true] at e;simp only [Bool.and_eq_true] at hq;obtain ⟨⟨⟨⟨q1, q2⟩, q3⟩, q4⟩, q5⟩ := hq;have q1 := Nat.eq_of_beq_eq_true q1;have q2 := Nat.eq_of_beq_eq_true q2;have q3 := Nat.eq_of_beq_eq_true q3;have q4 := Nat.eq_of_beq_eq_true q4;subst q1;subst q2;subst q3;rw [capAt_big (Nat.le_refl _), Nat.sub_self, Nat.sub_zero] at hc;subst hc;split at e
                case h_2 => cases e
                rename_i h2 ge;simp only [Option.some.injEq, Prod.mk.injEq] at e;obtain ⟨rfl, rfl⟩ := e;by_cases hroom : sl + n ≤ m.c r
                · refine room r' 0 (m.c r) h2 _ undef hroom ?_;have hfit : cs.length + new.length ≤ m.c r * inf.size := by
                    rw [q4, hv.1, hl, ← Nat.add_mul];exact Nat.mul_le_mul_right _ hroom
                  obtain ⟨W', g1, g2, g3, g4⟩ := growE_in (P := P) s hi hg ge hv q5 hr hfit;refine ⟨_, W', ?_, .sl g3 (by rw [capAt_big (Nat.le_refl _), g4]; omega) hroom, g2⟩;rw [Nat.zero_add, ← q4];exact g1
                · obtain ⟨c, k2, k3, k4, _, _⟩ := s.row hr hg;have hfirst : firstE h inf.size sl (.slice (some ⟨r, 0, none⟩) sl big) = some cs := by
                    simp only [firstE, hg, cellsE, Nat.zero_add];rw [← q4, Nat.ble_eq_true_of_le (Nat.le_refl _)];simp
                  obtain ⟨old', o1, o2, o3⟩ := firstE_ok (x' := .slice (some ⟨r', 0, none⟩) sl (m.c r)) s hfirst (.sl hr (by rw [capAt_big (Nat.le_refl _)]; omega) hk);exact grown cs old' _ _ (some r) h2 o1 o2 (by omega) (fun q e => by cases e; exact ⟨⟨_, hg, rfl⟩, r', hr⟩) o3 ge
            case h_2 hbig =>
              have hbig := ble_false hbig;rw [capAt_small hbig] at hc;subst hc;split at e
              case h_1 hroom =>
                have hroom := Nat.le_of_ble_eq_true hroom;split at e
                case h_2 => cases e
                rename_i h2 pe;simp only [Option.some.injEq, Prod.mk.injEq] at e;obtain ⟨rfl, rfl⟩ := e;refine room r' o _ h2 _ undef hroom ?_;obtain ⟨W', k2, k3⟩ := putE_ok s hr pe hv;exact ⟨m, W', k2, .sl hr (by rw [capAt_small hbig]) hroom, k3⟩
              case h_2 hroom =>
                have hroom := ble_false hroom;split at e
                case h_1 => cases e
                rename_i old hfo;split at e
                case h_2 => cases e
                rename_i h2 ge;simp only [Option.some.injEq, Prod.mk.injEq] at e;obtain ⟨rfl, rfl⟩ := e;obtain ⟨old', o1, o2, o3⟩ := firstE_ok s hfo (.sl hr (by rw [capAt_small hbig]) hk);exact grown old old' _ _ none h2 o1 o2 hroom (fun q e => by cases e) o3 ge
def copyE (P : Program) (h : Hp) (ts : Array TypeId) (d s : Value) : Option (Value × Hp) :=
  match ts[0]? with
  | some t => match P.underlying t, d, s with
    | some (.slice e), .slice (some ⟨r, o, none⟩) dl _, .slice _ sl _ => match P.info? e with
      | some inf => match firstE h inf.size (Nat.min sl dl) s with
        | some l => match putE h r o l with
          | some h' => some (.int .i64 (Nat.min sl dl : Nat), h')
          | none => none
        | none => none
      | none => none
    | _, _, _ => none
  | none => none
theorem copyE_ok {P : Program} {n0 : Nat} {m : Ab} {h h' : Hp} {W : World} (s : Sat P n0 m h W) {ts : Array TypeId} {ty : TypeId} {x x' y y' w : Value} (e : copyE P h ts x y = some (w, h')) (hx : VR m x x') (hy : VR m y y') :
    ValR P n0 m h W (Builtin.copy_ ts ty #[x', y']) w h' := by
  unfold copyE at e;split at e
  case h_2 => cases e
  rename_i t ht;split at e
  case h_2 => cases e
  rename_i el r o dl dc sb sl sc hu;split at e
  case h_2 => cases e
  rename_i inf hi;split at e
  case h_2 => cases e
  rename_i l hf;split at e
  case h_2 => cases e
  rename_i h2 hp;simp only [Option.some.injEq, Prod.mk.injEq] at e;obtain ⟨rfl, rfl⟩ := e;obtain ⟨l', hv, hl, hrun⟩ := firstE_ok s hf hy;cases hx with
  | sl hr hc hk =>
    obtain ⟨W', k2, k3⟩ := putE_ok s hr hp hv;have hlen : (Builtin.lenOf y').run P W = .ok sl W := by cases hy <;> rfl
    have f1 := hrun W (fun _ _ h => h);refine ⟨m, W', _, ?_, .int _ _, k3⟩;simp only [Builtin.copy_, ht];simp [rU hu, hlen, rS hi, f1, k2, goInt]
theorem EL.get {m : Ab} {l l' : List MapEntry} (h : EL m l l') {i : Nat} {e : MapEntry} (he : l[i]? = some e) : ∃ e', l'[i]? = some e' ∧ ER m e e' := by
  induction h generalizing i with
  | nil => simp at he
  | cons h k ih =>
    cases i with
    | zero => simp only [List.getElem?_cons_zero, Option.some.injEq] at he ⊢; subst he; exact ⟨_, rfl, h⟩
    | succ i => simp only [List.getElem?_cons_succ] at he ⊢; exact ih he
theorem EL.set {m : Ab} {l l' : List MapEntry} (h : EL m l l') (i : Nat) {e e' : MapEntry} (he : ER m e e') : EL m (l.set i e) (l'.set i e') := by
  induction h generalizing i with
  | nil => exact .nil
  | cons h k ih =>
    cases i with
    | zero => exact .cons he k
    | succ i => exact .cons h (ih i)
theorem EL.snoc {m : Ab} {l l' : List MapEntry} (h : EL m l l') {e e' : MapEntry} (he : ER m e e') : EL m (l ++ [e]) (l' ++ [e']) := by
  induction h with
  | nil => exact .cons he .nil
  | cons h _ ih => exact .cons h ih
theorem EL.len {m : Ab} {l l' : List MapEntry} (h : EL m l l') : l.length = l'.length := by
  induction h with
  | nil => rfl
  | cons _ _ ih => simp [ih]
theorem sameNow_vr {m : Ab} {d : TypeDesc} {k a a' : Value} {b : Bool} (h : Instr.sameNow d k a = some b) (ha : VR m a a') : a' = a := by
  unfold Instr.sameNow at h;split at h <;> (try (cases h; done)) <;> cases ha <;> rfl
theorem findNow_rel {m : Ab} {d : TypeDesc} {k : Value} {es es' : List MapEntry} (h : EL m es es') : ∀ {i : Nat} {r : Option (Nat × Value)}, Instr.findNow d k es i = some r →
    (r = none ∧ Instr.findNow d k es' i = some none) ∨ (∃ j v v' e, r = some (j, v) ∧ i ≤ j ∧ es[j - i]? = some e ∧ e.val = v ∧ Instr.sameNow d k e.key = some true ∧ Instr.findNow d k es' i = some (some (j, v')) ∧ VR m v v') := by
  induction h with
  | nil => intro i r e; simp only [Instr.findNow, Option.some.injEq] at e; exact .inl ⟨e.symm, rfl⟩
  | cons h hk ih =>
    rename_i e e' l l';intro i r er;simp only [Instr.findNow] at er ⊢;split at er
    case h_1 hs =>
      have := sameNow_vr hs h.key;rw [this, hs];simp only [Option.some.injEq] at er;refine .inr ⟨i, e.val, e'.val, e, er.symm, Nat.le_refl _, by simp, rfl, hs, rfl, h.val⟩
    case h_2 hs =>
      have := sameNow_vr hs h.key;rw [this, hs];rcases ih er with h1 | ⟨j, v, v', e2, h1, h2, h3, h4, h5, h6, h7⟩
      · exact .inl h1
      · refine .inr ⟨j, v, v', e2, h1, by omega, ?_, h4, h5, h6, h7⟩;have : j - i = (j - (i + 1)) + 1 := by omega
        rw [this]; simpa using h3
    case h_3 => cases er
def keyKind : TypeDesc → Bool
  | .int _ | .string | .bool => true
  | _ => false
theorem rCheck {P : Program} {t : TypeId} {d : TypeDesc} (hu : P.underlying t = some d) (hk : keyKind d = true) (b : Bool) (k : Value) (W : World) : (Instr.checkKey b 10000 t k).run P W = .ok () W := by
  have key : ∀ n, (Instr.checkKey b (n + 1) t k).run P W = .ok () W := by
    intro n;simp only [Instr.checkKey, Sem.run_bind, rU hu, Result.andThen_ok];cases d <;> first | (simp [keyKind] at hk; done) | rfl
  exact key 9999
theorem rFind {P : Program} {t : TypeId} {d : TypeDesc} (hu : P.underlying t = some d) {k : Value} {es : List MapEntry} {r : Option (Nat × Value)} (h : Instr.findNow d k es 0 = some r) (W : World) : (Instr.findKey t k es).run P W = .ok r W := by
  simp only [Instr.findKey, Sem.run_bind, rU hu, Result.andThen_ok, h, Sem.run_pure]
theorem Sat.mp {P : Program} {n0 : Nat} {m : Ab} {h : Hp} {W : World} (s : Sat P n0 m h W) {r r' ck : Nat} (h1 : m.b r = some r') {es : List MapEntry} (e : h.get r = some (.map es ck)) :
    ∃ es', W.heap[r']? = some (.map es' ck) ∧ EL m es es'.toList := by
  obtain ⟨ob, h2, h3⟩ := s.has r r' _ h1 e;cases h3 with | map _ h => exact ⟨_, h2, h⟩
theorem rGet {P : Program} {W : World} {r ck : Nat} {es : Array MapEntry} (h : W.heap[r]? = some (.map es ck)) : (getObj r).run P W = .ok (.map es ck) W := by
  simp only [getObj, Sem.run, h]
def entsE (h : Hp) : Value → Option (List MapEntry)
  | .map none => some []
  | .map (some r) => match h.get r with
    | some (.map es _) => some es
    | _ => none
  | _ => none
def lookE (P : Program) (h : Hp) (t : TypeId) (x k : Value) (ok : Bool) : Option Value :=
  match P.underlying t with
  | some (.map kt et) => match P.underlying kt, entsE h x with
    | some d, some es => bif keyKind d && flat 0 k then (match Instr.findNow d k es 0, zeroE P et with
      | some (some (_, v)), some _ => some (bif ok then .tuple #[v, .bool true] else v)
      | some none, some z => some (bif ok then .tuple #[z, .bool false] else z)
      | _, _ => none) else none
    | _, _ => none
  | _ => none
theorem lookE_ok {P : Program} {n0 : Nat} {m : Ab} {h : Hp} {W : World} (s : Sat P n0 m h W) {t : TypeId} {x x' k k' v : Value} {ok : Bool} (e : lookE P h t x k ok = some v) (hx : VR m x x') (hk : VR m k k') :
    ∃ v', VR m v v' ∧ (Instr.lookup t x' k' ok).run P W = .ok v' W := by
  unfold lookE at e;split at e
  case h_2 => cases e
  rename_i kt et hu;split at e
  case h_2 => cases e
  rename_i d es hd hes;cases hb : (keyKind d && flat 0 k) with
  | false => rw [hb] at e; cases e
  | true =>
    rw [hb] at e;simp only [cond_true] at e;simp only [Bool.and_eq_true] at hb;have hkk := flat_eq 0 hb.2 hk;subst hkk;have ents : ∃ es' : Array MapEntry, EL m es es'.toList ∧ ((x' = .map none ∧ es' = #[]) ∨ ∃ r' ck, x' = .map (some r') ∧ W.heap[r']? = some (.map es' ck)) := by
      unfold entsE at hes;split at hes
      case h_1 => simp only [Option.some.injEq] at hes; subst hes; cases hx; exact ⟨#[], .nil, .inl ⟨rfl, rfl⟩⟩
      case h_2 r =>
        split at hes
        case h_2 => cases hes
        rename_i es0 ck hg;simp only [Option.some.injEq] at hes;subst hes;cases hx with
        | map hr =>
          obtain ⟨es', h2, h3⟩ := s.mp hr hg;exact ⟨es', h3, .inr ⟨_, _, rfl, h2⟩⟩
      case h_3 => cases hes
    obtain ⟨es', he, hK⟩ := ents;have go : ∀ r, Instr.findNow d k' es'.toList 0 = some r → (Instr.lookup t x' k' ok).run P W = ((match r with | some (_, v) => pure (v, true) | none => do pure (← zeroValue et, false) : Sem (Value × Bool)).run P W).andThen fun a w => .ok (if ok then .tuple #[a.1, .bool a.2] else a.1) w := by
      intro r hr;rcases hK with ⟨rfl, rfl⟩ | ⟨r', ck, rfl, h2⟩
      · simp only [Instr.lookup, Sem.run_bind, rU hu, Result.andThen_ok, Sem.run_pure, rCheck hd hb.1, rFind hd hr];cases r with
        | none => simp; cases (zeroValue et).run P W <;> rfl
        | some q => simp
      · simp only [Instr.lookup, Sem.run_bind, rU hu, Result.andThen_ok, Sem.run_pure, rGet h2, rCheck hd hb.1, rFind hd hr];cases r with
        | none => simp; cases (zeroValue et).run P W <;> rfl
        | some q => simp
    split at e
    case h_3 => cases e
    case h_1 j v z hf hz =>
      simp only [Option.some.injEq] at e;subst e;rcases findNow_rel he hf with ⟨h1, _⟩ | ⟨j2, v2, v', e2, h1, _, _, _, _, h6, h7⟩
      · cases h1
      · simp only [Option.some.injEq, Prod.mk.injEq] at h1;obtain ⟨rfl, rfl⟩ := h1;have := go _ h6;cases ok with
        | true => exact ⟨.tuple #[v', .bool true], vl2 h7 (.bool true), by rw [this]; rfl⟩
        | false => exact ⟨v', h7, by rw [this]; rfl⟩
    case h_2 z hf hz =>
      simp only [Option.some.injEq] at e;subst e;obtain ⟨inf, hi, hz', _, hv⟩ := zeroE_ok hz;rcases findNow_rel he hf with ⟨_, h6⟩ | ⟨j2, v2, v', e2, h1, _⟩
      · have := go _ h6;cases ok with
        | true => exact ⟨.tuple #[z, .bool false], vl2 (hv m) (.bool false), by rw [this]; simp [rZ hi hz']⟩
        | false => exact ⟨z, hv m, by rw [this]; simp [rZ hi hz']⟩
      · cases h1
theorem putMap_ok {P : Program} {n0 : Nat} {m : Ab} {h : Hp} {W : World} (s : Sat P n0 m h W) {r ck ck2 : Nat} {es es2 : List MapEntry} {es2' : Array MapEntry} (hg : h.get r = some (.map es ck)) (hb : r + 1 < 2 ^ 64) {r' : Nat} (hr : m.b r = some r')
    (he : EL m es2 es2'.toList) : (setObj r' (.map es2' ck2)).run P W = .ok () { W with heap := W.heap.setIfInBounds r' (.map es2' ck2) } ∧
      St P n0 m m h (h.set (some (.map es2 ck2)) r) W { W with heap := W.heap.setIfInBounds r' (.map es2' ck2) } := by
  obtain ⟨es', h2, _⟩ := s.mp hr hg;refine ⟨by simp only [setObj, Sem.run, h2], St.put s ⟨_, hg, rfl⟩ hr hb (.map ck2 he) ?_ (fun k hk => ?_) (by simp) rfl rfl rfl⟩
  · show (W.heap.setIfInBounds r' _)[r']? = _
    rw [Array.getElem?_setIfInBounds_self, if_pos (heap_lt h2)]
  · show (W.heap.setIfInBounds r' _)[k]? = _
    rw [Array.getElem?_setIfInBounds_ne (Ne.symm hk)]
def small64 (r : Nat) : Bool := Nat.ble (r + 2) 18446744073709551615
theorem small64_lt {r : Nat} (h : small64 r = true) : r + 1 < 2 ^ 64 := by have := Nat.le_of_ble_eq_true h; omega
def updE (P : Program) (h : Hp) (t : TypeId) (x k v : Value) : Option Hp :=
  match P.underlying t, x with
  | some (.map kt _), .map (some r) => match P.underlying kt, h.get r with
    | some d, some (.map es ck) => bif keyKind d && flat 0 k && small64 r then (match Instr.findNow d k es 0 with
      | some (some (i, _)) => match es[i]? with
        | some e => some (h.set (some (.map (es.set i { e with key := k, val := v }) ck)) r)
        | none => none
      | some none => some (h.set (some (.map (es ++ [{ key := k, val := v, born := ck }]) (ck + 1))) r)
      | none => none) else none
    | _, _ => none
  | _, _ => none
theorem ba_eq {x y : ByteArray} (h : (x == y) = true) : x = y := by
  obtain ⟨a⟩ := x;obtain ⟨b⟩ := y;have e : a = b := by simpa using (show (a == b) = true from h)
  rw [e]
theorem sameBits_of {d : TypeDesc} {k a : Value} (h : Instr.sameNow d k a = some true) : Instr.sameBits 10000 a k = true := by
  unfold Instr.sameNow at h;split at h
  case h_1 j x j' y =>
    by_cases e : j = j'
    · subst e;simp only [if_true, Option.some.injEq, beq_iff_eq] at h;simp [Instr.sameBits, h]
    · simp [e] at h
  case h_2 x y =>
    simp only [Option.some.injEq] at h;have := ba_eq h;subst this;simpa only [Instr.sameBits] using h
  case h_3 x y =>
    simp only [Option.some.injEq, beq_iff_eq] at h;subst h;simp [Instr.sameBits]
  case h_4 => cases h
theorem el_modify {m : Ab} {es : List MapEntry} {es' : Array MapEntry} (h : EL m es es'.toList) {i : Nat} {e e' : MapEntry} (he : es[i]? = some e) (f : MapEntry → MapEntry) (hf : ∀ x, es'[i]? = some x → ER m e x → ER m e' (f x)) :
    EL m (es.set i e') (es'.modify i f).toList := by
  obtain ⟨x, hx, hr⟩ := h.get he;have hx' : es'[i]? = some x := by rw [← Array.getElem?_toList]; exact hx
  have : (es'.modify i f).toList = es'.toList.set i (f x) := by
    apply List.ext_getElem?;intro k;rw [Array.getElem?_toList, Array.getElem?_modify, List.getElem?_set, ← Array.getElem?_toList];have hi := (List.getElem?_eq_some_iff.1 hx).1;by_cases e : i = k
    · subst e;have hi' : i < es'.size := by simpa using hi
      rw [if_pos rfl, if_pos rfl, if_pos hi, hx];rfl
    · rw [if_neg e, if_neg e]
  rw [this];exact h.set i (hf x hx' hr)
theorem updE_ok {P : Program} {n0 : Nat} {m : Ab} {h h' : Hp} {W : World} (s : Sat P n0 m h W) {t : TypeId} {x x' k k' v v' : Value} (e : updE P h t x k v = some h') (hx : VR m x x') (hk : VR m k k') (hv : VR m v v') :
    UnitR P n0 m h W (Instr.mapUpdate t x' k' v') h' := by
  unfold updE at e;split at e
  case h_2 => cases e
  rename_i kt et r hu;split at e
  case h_2 => cases e
  rename_i d es ck hd hg;cases hb : (keyKind d && flat 0 k && small64 r) with
  | false => rw [hb] at e; cases e
  | true =>
    rw [hb] at e;simp only [cond_true] at e;simp only [Bool.and_eq_true] at hb;have hkk := flat_eq 0 hb.1.2 hk;subst hkk;have hs := small64_lt hb.2;cases hx with
    | map hr =>
      obtain ⟨es', h2, h3⟩ := s.mp hr hg;split at e
      case h_1 i w hf =>
        split at e
        case h_2 => cases e
        rename_i e0 he0;simp only [Option.some.injEq] at e;subst e;rcases findNow_rel h3 hf with ⟨q, _⟩ | ⟨j, v2, w', e2, q1, _, q3, _, q5, q6, _⟩
        · cases q
        · simp only [Option.some.injEq, Prod.mk.injEq] at q1;obtain ⟨rfl, rfl⟩ := q1;rw [Nat.sub_zero] at q3;rw [he0] at q3; cases q3;obtain ⟨x0, hx0, hr0⟩ := h3.get he0;have hx0' : es'[i]? = some x0 := by rw [← Array.getElem?_toList]; exact hx0
          have hkey : x0.key = e0.key := sameNow_vr q5 hr0.key;have hstay : (Instr.keyThatStays (((es'[i]?).map (·.key)).getD k') k').run P W = .ok k' W := by
            simp [Instr.keyThatStays, hx0', hkey, sameBits_of q5]
          have hstay2 : (Instr.keyThatStays x0.key k').run P W = .ok k' W := by simpa [hx0'] using hstay
          obtain ⟨p1, p2⟩ := putMap_ok (P := P) (ck2 := ck) s hg hs hr (el_modify h3 he0 (fun e => { e with key := k', val := v' }) (e' := { e0 with key := k', val := v }) fun x _ hxr => ⟨flat_vr m 0 k' hb.1.2, hv, hxr.born⟩);refine ⟨m, _, ?_, p2⟩;simp only [Instr.mapUpdate, Sem.run_bind, rU hu, Result.andThen_ok, rGet h2, rCheck hd hb.1.1, rFind hd q6, hx0', Option.map_some, Option.getD_some, hstay2, p1]
      case h_2 hf =>
        simp only [Option.some.injEq] at e;subst e;rcases findNow_rel h3 hf with ⟨_, q6⟩ | ⟨j, v2, w', e2, q1, _⟩
        · have hel : EL m (es ++ [{ key := k', val := v, born := ck }]) (es'.push { key := k', val := v', born := ck }).toList := by
            rw [Array.toList_push];exact h3.snoc ⟨flat_vr m 0 k' hb.1.2, hv, rfl⟩
          obtain ⟨p1, p2⟩ := putMap_ok (P := P) (ck2 := ck + 1) s hg hs hr hel;refine ⟨m, _, ?_, p2⟩;simp only [Instr.mapUpdate, Sem.run_bind, rU hu, Result.andThen_ok, rGet h2, rCheck hd hb.1.1, rFind hd q6, p1]
        · cases q1
      case h_3 => cases e
def entE (P : Program) (h : Hp) (t : TypeId) (x k : Value) : Option (Value × Hp) :=
  match P.underlying t, x with
  | some (.map kt et), .map (some r) => match P.underlying kt, h.get r with
    | some d, some (.map es ck) => bif keyKind d && flat 0 k && small64 r then (match Instr.findNow d k es 0 with
      | some (some (i, v)) => match es[i]? with
        | some e => some (.tuple #[v, .int .i64 e.born], h.set (some (.map (es.set i { e with key := k }) ck)) r)
        | none => none
      | some none => match zeroE P et with
        | some z => some (.tuple #[z, .int .i64 ck], h.set (some (.map (es ++ [{ key := k, val := z, born := ck }]) (ck + 1))) r)
        | none => none
      | none => none) else none
    | _, _ => none
  | _, _ => none
theorem entE_ok {P : Program} {n0 : Nat} {m : Ab} {h h' : Hp} {W : World} (s : Sat P n0 m h W) {t : TypeId} {x x' k k' w : Value} (e : entE P h t x k = some (w, h')) (hx : VR m x x') (hk : VR m k k') :
    ValR P n0 m h W (Instr.mapEntry t x' k') w h' := by
  unfold entE at e;split at e
  case h_2 => cases e
  rename_i kt et r hu;split at e
  case h_2 => cases e
  rename_i d es ck hd hg;cases hb : (keyKind d && flat 0 k && small64 r) with
  | false => rw [hb] at e; cases e
  | true =>
    rw [hb] at e;simp only [cond_true] at e;simp only [Bool.and_eq_true] at hb;have hkk := flat_eq 0 hb.1.2 hk;subst hkk;have hs := small64_lt hb.2;cases hx with
    | map hr =>
      obtain ⟨es', h2, h3⟩ := s.mp hr hg;split at e
      case h_1 i w hf =>
        split at e
        case h_2 => cases e
        rename_i e0 he0;simp only [Option.some.injEq, Prod.mk.injEq] at e;obtain ⟨rfl, rfl⟩ := e;rcases findNow_rel h3 hf with ⟨q, _⟩ | ⟨j, v2, w', e2, q1, _, q3, _, q5, q6, q7⟩
        · cases q
        · simp only [Option.some.injEq, Prod.mk.injEq] at q1;obtain ⟨rfl, rfl⟩ := q1;rw [Nat.sub_zero] at q3;rw [he0] at q3; cases q3;obtain ⟨x0, hx0, hr0⟩ := h3.get he0;have hx0' : es'[i]? = some x0 := by rw [← Array.getElem?_toList]; exact hx0
          have hkey : x0.key = e0.key := sameNow_vr q5 hr0.key;have hstay : (Instr.keyThatStays (((es'[i]?).map (·.key)).getD k') k').run P W = .ok k' W := by
            simp [Instr.keyThatStays, hx0', hkey, sameBits_of q5]
          have hstay2 : (Instr.keyThatStays x0.key k').run P W = .ok k' W := by simpa [hx0'] using hstay
          obtain ⟨p1, p2⟩ := putMap_ok (P := P) (ck2 := ck) s hg hs hr (el_modify h3 he0 (fun e => { e with key := k' }) (e' := { e0 with key := k' }) fun x _ hxr => ⟨flat_vr m 0 k' hb.1.2, hxr.val, hxr.born⟩);refine ⟨m, _, .tuple #[w', .int .i64 e0.born], ?_, vl2 q7 (.int _ _), p2⟩;simp only [Instr.mapEntry, Sem.run_bind, rU hu, Result.andThen_ok, rGet h2, rCheck hd hb.1.1, rFind hd q6, hx0', Option.map_some, Option.getD_some, hstay2, p1, Sem.run_pure, hr0.born, goInt]
      case h_2 hf =>
        split at e
        case h_2 => cases e
        rename_i z hz;simp only [Option.some.injEq, Prod.mk.injEq] at e;obtain ⟨rfl, rfl⟩ := e;obtain ⟨inf, hi, hz', _, hzv⟩ := zeroE_ok hz;rcases findNow_rel h3 hf with ⟨_, q6⟩ | ⟨j, v2, w', e2, q1, _⟩
        · have hel : EL m (es ++ [{ key := k', val := z, born := ck }]) (es'.push { key := k', val := z, born := ck }).toList := by
            rw [Array.toList_push];exact h3.snoc ⟨flat_vr m 0 k' hb.1.2, hzv m, rfl⟩
          obtain ⟨p1, p2⟩ := putMap_ok (P := P) (ck2 := ck + 1) s hg hs hr hel;refine ⟨m, _, .tuple #[z, .int .i64 ck], ?_, vl2 (hzv m) (.int _ _), p2⟩;simp only [Instr.mapEntry, Sem.run_bind, rU hu, Result.andThen_ok, rGet h2, rCheck hd hb.1.1, rFind hd q6, rZ hi hz', p1, Sem.run_pure, goInt]
        · cases q1
      case h_3 => cases e
def bornAt (b : Nat) : List MapEntry → Nat → Option (Nat × MapEntry)
  | [], _ => none
  | e :: l, i => bif Nat.beq e.born b then some (i, e) else bornAt b l (i + 1)
def estoreE (h : Hp) (x st v : Value) : Option Hp :=
  match x, st with
  | .map (some r), .int _ (.ofNat b) => match h.get r with
    | some (.map es ck) => match bornAt b es 0 with
      | some (i, e) => bif small64 r then some (h.set (some (.map (es.set i { e with val := v }) ck)) r) else none
      | none => none
    | _ => none
  | _, _ => none
theorem bornAt_rel {m : Ab} {n : Nat} {es es' : List MapEntry} (h : EL m es es') : ∀ {k i : Nat} {e : MapEntry}, bornAt n es k = some (i, e) → k ≤ i ∧ es[i - k]? = some e ∧ es'.findIdx? (fun e => (e.born : Int) == Int.ofNat n) = some (i - k) := by
  induction h with
  | nil => intro k i e h; cases h
  | cons h hk ih =>
    rename_i e e' l l';intro k i e0 he;simp only [bornAt] at he;rw [List.findIdx?_cons];cases hb : Nat.beq e.born n with
    | true =>
      rw [hb] at he;simp only [cond_true, Option.some.injEq, Prod.mk.injEq] at he;obtain ⟨rfl, rfl⟩ := he;have := Nat.eq_of_beq_eq_true hb;simp [h.born, this]
    | false =>
      rw [hb] at he;simp only [cond_false] at he;obtain ⟨a1, a2, a3⟩ := ih he;have hne : ¬ e.born = n := fun q => by rw [q] at hb; simp at hb
      have hd : i - k = (i - (k + 1)) + 1 := by omega
      refine ⟨by omega, by rw [hd]; simpa using a2, ?_⟩;have hf : (((e'.born : Nat) : Int) == Int.ofNat n) = false := by
        rw [h.born];simp only [Int.ofNat_eq_natCast, beq_eq_false_iff_ne, ne_eq];omega
      rw [hf, a3, hd];rfl
theorem estoreE_ok {P : Program} {n0 : Nat} {m : Ab} {h h' : Hp} {W : World} (s : Sat P n0 m h W) {t : TypeId} {x x' k k' v v' : Value} (e : estoreE h x k v = some h') (hx : VR m x x') (hk : VR m k k') (hv : VR m v v') :
    UnitR P n0 m h W (Instr.entryStore t x' k' v') h' := by
  unfold estoreE at e;split at e
  case h_2 => cases e
  rename_i r kk b;split at e
  case h_2 => cases e
  rename_i es ck hg;split at e
  case h_2 => cases e
  rename_i i e0 hb;cases hs : small64 r with
  | false => rw [hs] at e; cases e
  | true =>
    rw [hs] at e;simp only [cond_true, Option.some.injEq] at e;subst e;cases hx with
    | map hr =>
      obtain ⟨es', h2, h3⟩ := s.mp hr hg;obtain ⟨_, a2, a3⟩ := bornAt_rel h3 hb;rw [Nat.sub_zero] at a2 a3;cases hk
      have a4 : es'.findIdx? (fun e => (e.born : Int) == Int.ofNat b) = some i := by cases es' with | mk l => simpa using a3
      obtain ⟨p1, p2⟩ := putMap_ok (P := P) (ck2 := ck) s hg (small64_lt hs) hr (el_modify h3 a2 (fun e => { e with val := v' }) (e' := { e0 with val := v }) fun x _ hxr => ⟨hxr.key, hv, hxr.born⟩);refine ⟨m, _, ?_, p2⟩;simp only [Instr.entryStore, Sem.run_bind, rGet h2, Result.andThen_ok, asInt, asIntOf, Sem.run_pure, a4, p1]
def bytesE : List Value → Option (List Int)
  | [] => some []
  | .int .u8 n :: l => match bytesE l with
    | some r => some (n :: r)
    | none => none
  | _ => none
theorem bytesE_eq : ∀ {l : List Value} {r : List Int}, bytesE l = some r → l = r.map fun n => Value.int .u8 n
  | [], r, h => by simp only [bytesE, Option.some.injEq] at h; subst h; rfl
  | v :: l, r, h => by
    unfold bytesE at h;split at h
    · simp_all
    · rename_i n l' hv;cases hr : bytesE l' with
      | none => rw [hr] at h; cases h
      | some q =>
        rw [hr] at h;simp only [Option.some.injEq] at h;simp only [List.cons.injEq] at hv;obtain ⟨rfl, rfl⟩ := hv;subst h;simp [bytesE_eq hr]
    · cases h
theorem vl_bytes {m : Ab} : ∀ {l : List Int} {l' : List Value}, VL m (l.map fun n => Value.int .u8 n) l' → l' = l.map fun n => Value.int .u8 n
  | [], l', h => List.eq_nil_of_length_eq_zero (by have := h.1; simpa using this.symm)
  | n :: l, l', h => by
    cases l' with
    | nil => exact absurd h.1 (by simp)
    | cons v l' =>
      have h0 := h.2 0;simp at h0;have ht : VL m (l.map fun n => Value.int .u8 n) l' := ⟨by have := h.1; simpa using this, fun i => by have := h.2 (i + 1); simpa using this⟩;rw [vl_bytes ht];cases h0
      rfl
def bstrE (P : Program) (h : Hp) (s d : TypeId) (x : Value) : Option Value :=
  match P.underlying s, P.underlying d with
  | some (.slice e), some .string => match P.underlying e, x with
    | some (.int .u8), .slice (some ⟨r, o, none⟩) len _ => match h.get r with
      | some (.row cs _ _) => match cellsE cs o len with
        | some l => match bytesE l with
          | some q => some (.string (q.foldl (fun r n => r.push (UInt8.ofNat n.toNat)) ByteArray.empty))
          | none => none
        | none => none
      | _ => none
    | some (.int .u8), .slice none _ _ => some (.string .empty)
    | _, _ => none
  | _, _ => none
theorem bstrE_ok {P : Program} {n0 : Nat} {m : Ab} {h : Hp} {W : World} (s : Sat P n0 m h W) {t d : TypeId} {x x' v : Value} (e : bstrE P h t d x = some v) (hx : VR m x x') :
    ∃ v', VR m v v' ∧ (convert t d x').run P W = .ok v' W := by
  unfold bstrE at e;split at e
  case h_2 => cases e
  rename_i el hu hd;split at e
  case h_3 => cases e
  case h_1 r o len cap he =>
    split at e
    case h_2 => cases e
    rename_i cs tt op hg;split at e
    case h_2 => cases e
    rename_i l hl;split at e
    case h_2 => cases e
    rename_i q hq;simp only [Option.some.injEq] at e;subst e;cases hx with
    | sl hr hc hk =>
      obtain ⟨l', h2, h3, h4⟩ := cellsE_run s hr hg hl;have := bytesE_eq hq;subst this;have := vl_bytes h2;subst this;refine ⟨_, .str _, ?_⟩;rw [run_convert_bytes_string W t d el _ _ _ hu he hd];exact run_bytesToString W _ len _ q h4
  case h_2 a b he =>
    simp only [Option.some.injEq] at e;subst e;cases hx
    exact ⟨_, .str _, by rw [run_convert_bytes_string W t d el _ _ _ hu he hd]; rfl⟩
def mlenE (P : Program) (h : Hp) (ts : Array TypeId) (x : Value) : Option Value :=
  match ts[0]?, x with
  | some t, .map (some r) => match P.underlying t, h.get r with
    | some (.map ..), some (.map es _) => some (.int .i64 es.length)
    | _, _ => none
  | _, _ => none
theorem mlenE_ok {P : Program} {n0 : Nat} {m : Ab} {h : Hp} {W : World} (s : Sat P n0 m h W) {ts : Array TypeId} {ty : TypeId} {x x' v : Value} (e : mlenE P h ts x = some v) (hx : VR m x x') :
    ∃ v', VR m v v' ∧ (Builtin.len_ ts ty #[x']).run P W = .ok v' W := by
  unfold mlenE at e;split at e
  case h_2 => cases e
  rename_i t r ht;split at e
  case h_2 => cases e
  rename_i kt et es ck hu hg;simp only [Option.some.injEq] at e;subst e;cases hx with
  | map hr =>
    obtain ⟨es', h2, h3⟩ := s.mp hr hg;refine ⟨_, .int _ _, ?_⟩;simp only [Builtin.len_, ht];simp [rU hu, rGet h2, goInt, h3.len]
def notSel : Op → Bool
  | .select .. => false
  | _ => true
def mcallE (P : Program) (h : Hp) (ρ : Operand → Value) (c : Call) : Option Value :=
  match c.callee, c.args.toList with
  | .builtin .len, [x] => mlenE P h c.argTypes (ρ x)
  | _, _ => none
def still1 (P : Program) (h : Hp) (ρ : Operand → Value) : Op → Option Value
  | .load t a => loadE P h t (ρ a)
  | .lookup t x k ok => lookE P h t (ρ x) (ρ k) ok
  | .convert s d x => bstrE P h s d (ρ x)
  | .call c => mcallE P h ρ c
  | _ => none
def stillE (P : Program) (h : Hp) (ρ : Operand → Value) (o : Oper) : Option Value :=
  match sop P ρ o.op with
  | some v => some v
  | none => match still1 P h ρ o.op with
    | some v => some v
    | none => bif notSel o.op && o.op.operands.toList.all (fun x => flat 4 (ρ x)) then (match pureRun P (execOp ρ o) with
      | some (.value v) => bif flat 4 v then some v else none
      | _ => none) else none
theorem still1_ok {P : Program} {n0 : Nat} {m : Ab} {h : Hp} {W : World} (s : Sat P n0 m h W) {ρ ρ' : Operand → Value} {o : Oper} {w : Value} (hs : still1 P h ρ o.op = some w) (ho : Ops m ρ ρ' o.op) :
    ∃ v', VR m w v' ∧ (execOp ρ' o).run P W = .ok (.value v') W := by
  obtain ⟨dst, op, type, pos, after, guard⟩ := o;simp only at hs ho;unfold Ops at ho;cases op <;> simp only [Op.operands] at ho <;> simp only [still1] at hs <;> (try (cases hs; done)) <;> simp only [execOp]
  case load t a =>
    obtain ⟨v', h1, h2⟩ := loadVar_ok s hs (ho a (by simp));exact ⟨v', h1, by simp [h2]⟩
  case convert t d x =>
    obtain ⟨v', h1, h2⟩ := bstrE_ok s hs (ho x (by simp));exact ⟨v', h1, by simp [h2]⟩
  case lookup t x k ok =>
    obtain ⟨v', h1, h2⟩ := lookE_ok s hs (ho x (by simp)) (ho k (by simp));exact ⟨v', h1, by simp [h2]⟩
  case call c =>
    obtain ⟨callee, args, ts⟩ := c;unfold mcallE at hs;split at hs
    case h_2 => cases hs
    rename_i x hcl hx;simp only at hcl hx hs;subst hcl;have he : args = #[x] := by apply Array.ext'; exact hx
    subst he;obtain ⟨v', h1, h2⟩ := mlenE_ok (ty := type) s hs (ho x (by simp [Call.operands]));refine ⟨v', h1, ?_⟩;simp only [resolve, Sem.run_bind, Sem.run_pure, Result.andThen_ok, invoke];rw [show Array.map ρ' #[x] = #[ρ' x] from by simp];simp [builtin, h2]
theorem stillE_ok {P : Program} {n0 : Nat} {m : Ab} {h : Hp} {W : World} (s : Sat P n0 m h W) {ρ ρ' : Operand → Value} {o : Oper} {v : Value} (e : stillE P h ρ o = some v) (ho : Ops m ρ ρ' o.op) :
    ∃ v', VR m v v' ∧ (execOp ρ' o).run P W = .ok (.value v') W := by
  unfold stillE at e;split at e
  case h_1 w hs =>
    simp only [Option.some.injEq] at e;subst e;obtain ⟨v', h1, h2⟩ := sop_ok hs ho;exact ⟨v', h1, h2 W⟩
  case h_2 hnone =>
    clear hnone;split at e
    case h_1 w hs =>
      simp only [Option.some.injEq] at e;subst e;exact still1_ok s hs ho
    case h_2 =>
      cases hb : (notSel o.op && o.op.operands.toList.all fun x => flat 4 (ρ x)) with
      | false => rw [hb] at e; cases e
      | true =>
        rw [hb] at e;simp only [cond_true] at e;simp only [Bool.and_eq_true] at hb;have hn : ∀ cs b, o.op ≠ .select cs b := fun cs b q => by rw [q] at hb; cases hb.1
        have hc : execOp ρ' o = execOp ρ o := execOp_congr o hn fun x hx => flat_eq 4 (by have := List.all_eq_true.1 hb.2 x (by simpa using hx); exact this) (ho x hx);split at e
        case h_2 => cases e
        rename_i w hp;cases hf : flat 4 w with
        | false => rw [hf] at e; cases e
        | true =>
          rw [hf] at e;simp only [cond_true, Option.some.injEq] at e;subst e;exact ⟨w, flat_vr m 4 w hf, by rw [hc]; exact pureRun_run hp W⟩
inductive Out where
  | val (v : Value) (h : Hp)
  | skip (h : Hp)
  | enter (f : FuncId) (args : Array Value)
  | rnd (l : Nat) (fn : FuncId) (tmps : Array Value) (assign body : Code)
  | defer (d : Deferred)
  | recover
def OutR (P : Program) (n0 : Nat) (m : Ab) (h : Hp) (W : World) (s : Sem Next) : Out → Prop
  | .val v h' => ∃ m' W' v', s.run P W = .ok (.value v') W' ∧ VR m' v v' ∧ St P n0 m m' h h' W W'
  | .skip h' => ∃ m' W', s.run P W = .ok .skip W' ∧ St P n0 m m' h h' W W'
  | .enter f args => ∃ args', s.run P W = .ok (.enter f args') W ∧ VRs m args args'
  | .rnd l fn tmps assign body => ∃ l' tmps', s.run P W = .ok (.round l' fn tmps' assign body) W ∧ m.b l = some l' ∧ VRs m tmps tmps'
  | .defer d => ∃ d', s.run P W = .ok (.defer d') W ∧ DR m d d'
  | .recover => s.run P W = .ok .recover W
def fnE (P : Program) (f : FuncId) : Option Func :=
  match P.funcs[f]? with
  | some F => match F.body with
    | some _ => some F
    | none => none
  | none => none
def named (P : Program) : Prop := ∀ (f : FuncId) (F : Func), P.funcs[f]? = some F → F.name ≠ "runtime.NumGoroutine"
theorem rCall {P : Program} (hP : named P) {f : FuncId} {F : Func} (h : fnE P f = some F) (args : Array Value) (W : World) : (callFunc f args).run P W = .ok (.enter f args) W := by
  unfold fnE at h;split at h
  case h_2 => cases h
  rename_i G hG;split at h
  case h_2 => cases h
  rename_i b hb;have := hP f G hG;simp [callFunc, hG, this, hb]
def methE (P : Program) (h : Hp) (t : TypeId) (v : Value) (name : String) : Option (FuncId × Value) :=
  match P.info? t, P.underlying t with
  | some i, some d => match i.methods.toList.find? (fun m => m.name == name) with
    | some mt => match mt.path.toList, mt.func with
      | [], some (f, p) => match d, p with
        | .pointer _, true => some (f, v)
        | .pointer e, false => match v, loadE P h e v with
          | .pointer (some _), some w => some (f, w)
          | _, _ => none
        | .struct _, false | .slice _, false | .int _, false | .func .., false => some (f, v)
        | _, _ => none
      | _, _ => none
    | none => none
  | _, _ => none
theorem methE_ok {P : Program} {n0 : Nat} {m : Ab} {h : Hp} {W : World} (s : Sat P n0 m h W) {t : TypeId} {v v' w : Value} {name : String} {f : FuncId} (e : methE P h t v name = some (f, w)) (hv : VR m v v') (n : Nat) :
    ∃ w', VR m w w' ∧ (method (n + 1) t v' name).run P W = .ok (f, w') W := by
  unfold methE at e;split at e
  case h_2 => cases e
  rename_i i d hi hu;split at e
  case h_2 => cases e
  rename_i mt hm;split at e
  case h_2 => cases e
  rename_i g p hp hf;have hfind : i.methods.find? (·.name == name) = some mt := by
    rw [← Array.find?_toList]; exact hm
  have hpath : mt.path = #[] := Array.ext' hp;have pre : ∀ w', (receiverAt t (.val v') p (if mt.path.isEmpty then some ((name.splitOn ".").getLastD name) else none)).run P W = .ok w' W → (method (n + 1) t v' name).run P W = .ok (g, w') W := by
    intro w' hw;simp only [method, Sem.run_bind, rI hi, Result.andThen_ok, hfind, hp, follow, Sem.run_pure, hf, hw]
  split at e
  case h_1 el =>
    simp only [Option.some.injEq, Prod.mk.injEq] at e;obtain ⟨rfl, rfl⟩ := e;refine ⟨v', hv, pre v' ?_⟩;simp [receiverAt, rU hu, Place.get]
  case h_2 el =>
    split at e
    case h_2 => cases e
    rename_i a w0 hl;simp only [Option.some.injEq, Prod.mk.injEq] at e;obtain ⟨rfl, rfl⟩ := e;obtain ⟨w', h1, h2⟩ := loadVar_ok s hl hv;refine ⟨w', h1, pre w' ?_⟩;cases hv with
    | ptr hr =>
      simp only [Instr.loadAt, Instr.sureAddr, Sem.run_bind, Sem.run_pure, Result.andThen_ok] at h2;have hw : ∀ (a : Addr) (x y : ByteArray), (Builtin.ssaWrapNilChk_ #[t] t #[.pointer (some a), .string x, .string y]).run P W = .ok (.pointer (some a)) W := fun a x y => rfl;simp only [receiverAt, Sem.run_bind, rU hu, Result.andThen_ok, Place.get, Sem.run_pure, hpath, Array.isEmpty_empty, if_true, strVal, hw, asAddr, h2]
  case h_7 => cases e
  all_goals
    simp only [Option.some.injEq, Prod.mk.injEq] at e;obtain ⟨rfl, rfl⟩ := e;refine ⟨v', hv, pre v' ?_⟩;simp [receiverAt, rU hu, Place.get]
theorem arr_append {m : Ab} {a a' b b' : Array Value} (h : VRs m a a') (k : VRs m b b') : VRs m (a ++ b) (a' ++ b') := by
  refine VL.arr ?_;rw [Array.toList_append, Array.toList_append];exact h.list.append k.list
def setAll : List (Nat × Value) → List Value → List Value
  | [], l => l
  | (t, v) :: r, l => setAll r (l.set t v)
theorem setAll_vl {m : Ab} : ∀ {ps ps' : List (Nat × Value)} {l l' : List Value}, PR m ps ps' → VL m l l' → VL m (setAll ps l) (setAll ps' l') := by
  intro ps ps' l l' h
  induction h generalizing l l' with
  | nil => intro hl; exact hl
  | cons i h _ ih => intro hl; exact ih (hl.set i h)
theorem foldl_setAll : ∀ (ps : List (Nat × Value)) (a : Array Value), (ps.foldl (fun (tmps : Array Value) (x : Nat × Value) => tmps.setIfInBounds x.1 x.2) a).toList = setAll ps a.toList
  | [], a => rfl
  | (t, v) :: r, a => by simp only [List.foldl_cons, setAll]; rw [foldl_setAll r]; simp
theorem pr_zip {m : Ab} : ∀ {ts : List Nat} {l l' : List Value}, VL m l l' → PR m (ts.zip l) (ts.zip l')
  | [], _, _, _ => .nil
  | t :: ts, [], [], _ => .nil
  | t :: ts, [], _ :: _, h => absurd h.1 (by simp)
  | t :: ts, _ :: _, [], h => absurd h.1 (by simp)
  | t :: ts, v :: l, v' :: l', h => .cons t (by have := h.2 0; simpa using this) (pr_zip ⟨by have := h.1; simpa using this, fun i => by have := h.2 (i + 1); simpa using this⟩)
def enterE (P : Program) (h : Hp) (f : Value) (args : Array Value) : Option Out :=
  match f with
  | .func (.func g) first captured => match fnE P g with
    | some _ => some (.enter g ⟨first.toList ++ args.toList ++ captured.toList⟩)
    | none => none
  | .func (.yield l) _ _ => match h.get l with
    | some (.loop L) => bif Nat.beq args.toList.length L.params.toList.length then
        some (.rnd l L.fn ⟨setAll (L.params.toList.zip args.toList) L.tmps.toList⟩ L.assign L.body) else none
    | _ => none
  | _ => none
theorem enterE_ok {P : Program} (hP : named P) {n0 : Nat} {m : Ab} {h : Hp} {W : World} (s : Sat P n0 m h W) {f f' : Value} {args args' : Array Value} {out : Out} (e : enterE P h f args = some out) (hf : VR m f f') (ha : VRs m args args') :
    OutR P n0 m h W (do let d ← Deferred.ofValue f' args'; invoke d.target d.args) out := by
  unfold enterE at e;split at e
  case h_3 => cases e
  case h_1 g first captured =>
    split at e
    case h_2 => cases e
    rename_i F hF;simp only [Option.some.injEq] at e;subst e;cases hf with
    | func _ h1 h2 h3 h4 =>
      rename_i first' captured';refine ⟨first' ++ args' ++ captured', ?_, ?_⟩
      · simp only [Deferred.ofValue, Sem.run_bind, Sem.run_pure, Result.andThen_ok, invoke, rCall hP hF]
      · have := arr_append (arr_append ⟨h1, h2⟩ ha) ⟨h3, h4⟩;refine VL.arr ?_;have := this.list;simpa using this
  case h_2 l a b =>
    split at e
    case h_2 => cases e
    rename_i L hL;cases hb : Nat.beq args.toList.length L.params.toList.length with
    | false => rw [hb] at e; cases e
    | true =>
      rw [hb] at e;simp only [cond_true, Option.some.injEq] at e;subst e;have hb := Nat.eq_of_beq_eq_true hb;cases hf with
      | yield hr =>
        rename_i l';obtain ⟨ob, h2, h3⟩ := s.has l l' _ hr hL;cases h3 with
        | loop hl =>
          rename_i L';have hsz : args'.size = L'.params.size := by rw [hl.params, ← ha.1]; simpa using hb
          have hget : (Instr.getLoop l').run P W = .ok L' W := by simp [Instr.getLoop, getObj, Sem.run, h2]
          refine ⟨l', (L'.params.zip args').foldl (fun tmps (t, a) => tmps.setIfInBounds t a) L'.tmps, ?_, hr, VL.arr ?_⟩
          · simp only [Deferred.ofValue, Sem.run_bind, Sem.run_pure, Result.andThen_ok, invoke, Instr.yield, hget];simp [hsz, hl.fn, hl.assign, hl.body]
          · rw [← Array.foldl_toList, foldl_setAll, Array.toList_zip, hl.params];exact setAll_vl (pr_zip ha.list) hl.tmps.list
def argsE (ρ : Operand → Value) (c : Call) : Array Value := ⟨c.args.toList.map ρ⟩
theorem argsE_ok {m : Ab} {ρ ρ' : Operand → Value} {c : Call} (h : ∀ x ∈ c.operands, VR m (ρ x) (ρ' x)) : VRs m (argsE ρ c) (c.args.map ρ') := by
  refine VL.arr ?_;simp only [argsE, Array.toList_map];exact .map _ fun x hx => h x (by simp only [Call.operands, Array.mem_append]; exact .inr (Array.mem_toList_iff.1 hx))
def callE (P : Program) (h : Hp) (i : Nat) (ρ : Operand → Value) (c : Call) : Option Out :=
  match c.callee with
  | .value f => enterE P h (ρ f) (argsE ρ c)
  | .invoke r name => match ρ r with
    | .iface t v => match methE P h t v name with
      | some (f, w) => match fnE P f with
        | some _ => some (.enter f ⟨w :: (argsE ρ c).toList⟩)
        | none => none
      | none => none
    | _ => none
  | .builtin .append => match (argsE ρ c).toList with
    | [s, x] => match appE P h i c.argTypes s x with
      | some (v, h') => some (.val v h')
      | none => none
    | _ => none
  | .builtin .copy => match (argsE ρ c).toList with
    | [s, x] => match copyE P h c.argTypes s x with
      | some (v, h') => some (.val v h')
      | none => none
    | _ => none
  | .builtin .recover => some .recover
  | _ => none
theorem callE_ok {P : Program} (hP : named P) {n0 : Nat} {m : Ab} {h : Hp} {W : World} (s : Sat P n0 m h W) {i : Nat} {ρ ρ' : Operand → Value} {c : Call} {ty : TypeId} {out : Out} (e : callE P h i ρ c = some out) (ho : ∀ x ∈ c.operands, VR m (ρ x) (ρ' x)) :
    OutR P n0 m h W (do let d ← resolve ρ' c ty; invoke d.target d.args) out := by
  have ha := argsE_ok ho;unfold callE at e;split at e
  case h_1 f hc =>
    have := enterE_ok hP s e (ho f (by simp [Call.operands, hc])) ha;simpa only [resolve, hc] using this
  case h_2 r name hc =>
    have hr := ho r (by simp [Call.operands, hc]);split at e
    case h_2 => cases e
    rename_i t v hv;rw [hv] at hr;split at e
    case h_2 => cases e
    rename_i f w hm;split at e
    case h_2 => cases e
    rename_i F hF;simp only [Option.some.injEq] at e;subst e;generalize hq : ρ' r = q at hr;cases hr with
    | iface _ hvv =>
      rename_i v'
      obtain ⟨n, hn⟩ : ∃ n, P.types.size + Made.depth = n + 1 := ⟨P.types.size + Made.depth - 1, by have : 0 < Made.depth := by decide
                                                                                                    omega⟩
      obtain ⟨w', h1, h2⟩ := methE_ok s hm hvv n;refine ⟨#[w'] ++ c.args.map ρ', ?_, VL.arr ?_⟩
      · have g0 : (#[Value.iface t v'] ++ c.args.map ρ')[0]? = some (.iface t v') := by rw [Array.getElem?_append]; simp
        have g1 : (#[Value.iface t v'] ++ c.args.map ρ').extract 1 (#[Value.iface t v'] ++ c.args.map ρ').size = c.args.map ρ' := by
          apply Array.ext';simp;exact List.take_of_length_le (by simp)
        simp only [resolve, hc, Sem.run_bind, Sem.run_pure, Result.andThen_ok, invoke, hq, g0, g1, callMethod, run_program, hn, h2, rCall hP hF]
      · simp only [Array.toList_append];exact .cons h1 ha.list
  case h_3 hc =>
    split at e
    case h_2 => cases e
    rename_i x y hxy;split at e
    case h_2 => cases e
    rename_i v h' ha';simp only [Option.some.injEq] at e;subst e;obtain ⟨x', y', hxy', hx, hy⟩ : ∃ x' y', c.args.map ρ' = #[x', y'] ∧ VR m x x' ∧ VR m y y' := by
      have hl := ha.list;rw [hxy] at hl;obtain ⟨x', e1, r1⟩ := hl.get (i := 0) (v := x) rfl;obtain ⟨y', e2, r2⟩ := hl.get (i := 1) (v := y) rfl;refine ⟨x', y', ?_, r1, r2⟩;apply Array.ext';apply List.ext_getElem?;intro k
      match k with
      | 0 => simpa using e1
      | 1 => simpa using e2
      | k + 2 => rw [List.getElem?_eq_none (by rw [← hl.1]; simp), List.getElem?_eq_none (by simp)]
    obtain ⟨m', W', v', e1, e2, e3⟩ := appE_ok (ty := ty) s ha' hx hy;refine ⟨m', W', v', ?_, e2, e3⟩;simp only [resolve, hc, Sem.run_bind, Sem.run_pure, Result.andThen_ok, invoke, hxy'];simp [builtin, e1]
  case h_4 hc =>
    split at e
    case h_2 => cases e
    rename_i x y hxy;split at e
    case h_2 => cases e
    rename_i v h' ha';simp only [Option.some.injEq] at e;subst e;obtain ⟨x', y', hxy', hx, hy⟩ : ∃ x' y', c.args.map ρ' = #[x', y'] ∧ VR m x x' ∧ VR m y y' := by
      have hl := ha.list;rw [hxy] at hl;obtain ⟨x', e1, r1⟩ := hl.get (i := 0) (v := x) rfl;obtain ⟨y', e2, r2⟩ := hl.get (i := 1) (v := y) rfl;refine ⟨x', y', ?_, r1, r2⟩;apply Array.ext';apply List.ext_getElem?;intro k
      match k with
      | 0 => simpa using e1
      | 1 => simpa using e2
      | k + 2 => rw [List.getElem?_eq_none (by rw [← hl.1]; simp), List.getElem?_eq_none (by simp)]
    obtain ⟨m', W', v', e1, e2, e3⟩ := copyE_ok (ty := ty) s ha' hx hy;refine ⟨m', W', v', ?_, e2, e3⟩;simp only [resolve, hc, Sem.run_bind, Sem.run_pure, Result.andThen_ok, invoke, hxy'];simp [builtin, e1]
  case h_5 hc =>
    simp only [Option.some.injEq] at e;subst e;show Sem.run P _ W = _
    simp only [resolve, hc, Sem.run_bind, Sem.run_pure, Result.andThen_ok, invoke];rfl
  case h_6 => cases e
end Go.Proofs.YtkmdakampkfioaaGreatDoor.Ev
