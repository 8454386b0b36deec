/- Words: maps whose keys are a struct of numbers. -/
import Derived.Test.YtgcmedkaadagmaaDoorV5
import Derived.Laws.StructEq
namespace Go.Proofs.YtgcmedkaadagmaaDoor
open Go.RowKit Go.Shelf Go.Maps

abbrev KD := Int × Int × Bool
def kvK (k : KD) : Value := .agg #[.int .i64 k.1, .int .i64 k.2.1, .bool k.2.2]
def kvP (x : (Nat × Nat) × Int) : Value := .agg #[.int .i64 (x.1.1 : Int), .int .u64 (x.1.2 : Int), .int .i64 x.2]
theorem three_of {α β : Type} {l : List α} {f : α → β} {x y z : β} (h : l.map f = [x, y, z]) : ∃ a b c, l = [a, b, c] ∧ f a = x ∧ f b = y ∧ f c = z := by
 match l, h with
 | [a, b, c], h => simp at h; exact ⟨a, b, c, rfl, h⟩
theorem two_of {α β : Type} {l : List α} {f : α → β} {x y : β} (h : l.map f = [x, y]) : ∃ a b, l = [a, b] ∧ f a = x ∧ f b = y := by
 match l, h with
 | [a, b], h => simp at h; exact ⟨a, b, rfl, h⟩
def fd (f : Field) : Bool × TypeId × Nat := (decide (f.name ≠ "_"), f.type, f.offset)
theorem fieldsK : ∃ a b c : Field, (Tryd.prog.fieldsOf 157).toList = [a, b, c] ∧ fd a = (true, 3, 0) ∧ fd b = (true, 3, 1) ∧ fd c = (true, 4, 2) := three_of (by kernel_rfl)
theorem fieldsP : ∃ a b : Field, (Tryd.prog.fieldsOf 161).toList = [a, b] ∧ fd a = (true, 143, 0) ∧ fd b = (true, 3, 2) := two_of (by kernel_rfl)
theorem fieldsPl : ∃ a b : Field, (Tryd.prog.fieldsOf 143).toList = [a, b] ∧ fd a = (true, 3, 0) ∧ fd b = (true, 50, 1) := two_of (by kernel_rfl)
theorem fd_of {f : Field} {t : TypeId} {o : Nat} (h : fd f = (true, t, o)) : f.name ≠ "_" ∧ f.type = t ∧ f.offset = o := by
 unfold fd at h
 simp only [Prod.mk.injEq, decide_eq_true_eq] at h
 exact h
theorem eqK (a b : KD) (w : World) : (Op.equal 157 (kvK a) (kvK b)).run Tryd.prog w = .ok (decide (a = b)) w := by
 obtain ⟨f1, f2, f3, hf, h1, h2, h3⟩ := fieldsK
 obtain ⟨n1, t1, o1⟩ := fd_of h1
 obtain ⟨n2, t2, o2⟩ := fd_of h2
 obtain ⟨n3, t3, o3⟩ := fd_of h3
 obtain ⟨a1, a2, a3⟩ := a
 obtain ⟨b1, b2, b3⟩ := b
 unfold kvK Op.equal
 rw [show Op.maxDepth = 9999 + 1 from rfl, run_equalIn_agg w 9999 157 _ _ (by kernel_rfl) (by kernel_rfl), hf]
 simp [Op.eqFields, n1, n2, n3, t1, t2, t3, o1, o2, o3, go_sem]
 by_cases e1 : a1 = b1 <;> by_cases e2 : a2 = b2 <;> by_cases e3 : a3 = b3 <;> simp [e1, e2, e3]
theorem eqPl (a b : Nat × Nat) (d : Nat) (w : World) : (Op.equalIn (d + 2) 143 (.agg #[.int .i64 (a.1 : Int), .int .u64 (a.2 : Int)]) (.agg #[.int .i64 (b.1 : Int), .int .u64 (b.2 : Int)])).run Tryd.prog w = .ok (decide (a = b)) w := by
 obtain ⟨f1, f2, hf, h1, h2⟩ := fieldsPl
 obtain ⟨n1, t1, o1⟩ := fd_of h1
 obtain ⟨n2, t2, o2⟩ := fd_of h2
 obtain ⟨a1, a2⟩ := a
 obtain ⟨b1, b2⟩ := b
 rw [run_equalIn_agg w (d + 1) 143 _ _ (by kernel_rfl) (by kernel_rfl), hf]
 simp [Op.eqFields, n1, n2, t1, t2, o1, o2, go_sem]
 by_cases e1 : a1 = b1 <;> by_cases e2 : a2 = b2 <;> simp [e1, e2] <;> omega
theorem eqP (a b : (Nat × Nat) × Int) (w : World) : (Op.equal 161 (kvP a) (kvP b)).run Tryd.prog w = .ok (decide (a = b)) w := by
 obtain ⟨f1, f2, hf, h1, h2⟩ := fieldsP
 obtain ⟨n1, t1, o1⟩ := fd_of h1
 obtain ⟨n2, t2, o2⟩ := fd_of h2
 obtain ⟨⟨a1, a2⟩, a3⟩ := a
 obtain ⟨⟨b1, b2⟩, b3⟩ := b
 unfold kvP Op.equal
 rw [show Op.maxDepth = 9999 + 1 from rfl, run_equalIn_agg w 9999 161 _ _ (by kernel_rfl) (by kernel_rfl), hf]
 simp [Op.eqFields, n1, n2, t1, t2, o1, o2, go_sem]
 by_cases e1 : a1 = b1 <;> by_cases e2 : a2 = b2 <;> by_cases e3 : a3 = b3 <;> simp [e1, e2, e3] <;> omega
theorem checkK (em : Bool) (k : KD) (w : World) : (Instr.checkKey em 10000 157 (kvK k)).run Tryd.prog w = .ok () w := by
 kernel_rfl
theorem checkP (em : Bool) (k : (Nat × Nat) × Int) (w : World) : (Instr.checkKey em 10000 161 (kvP k)).run Tryd.prog w = .ok () w := by
 kernel_rfl
theorem keyK : KeyOK (κ := KD) 157 kvK := KeyOK.ofAsk (kind := (Tryd.prog.underlying 157).get (by kernel_rfl)) (by simp) (fun a b => by kernel_rfl) (fun a b w => eqK a b w) checkK (fun k => by unfold kvK Instr.sameBits; simp [Instr.sameBits])
theorem keyP : KeyOK (κ := (Nat × Nat) × Int) 161 kvP := KeyOK.ofAsk (kind := (Tryd.prog.underlying 161).get (by kernel_rfl)) (by simp) (fun a b => by kernel_rfl) (fun a b w => eqP a b w) checkP (fun k => by unfold kvP Instr.sameBits; simp [Instr.sameBits])
theorem zeroB (w : World) : (zeroValue 4).run Tryd.prog w = .ok (.bool false) w := by kernel_rfl
theorem zeroU (w : World) : (zeroValue 50).run Tryd.prog w = .ok (.int .u64 0) w := by kernel_rfl
end Go.Proofs.YtgcmedkaadagmaaDoor
