/- Words: maps whose keys are a struct of numbers. -/
import Derived.Test.YtkmdakampkfioaaGreatDoorV5
import Derived.Laws.StructEq
namespace Go.Proofs.YtkmdakampkfioaaGreatDoor
open Go.RowKit Go.Shelf Go.Maps
abbrev KD := Int × Int × Bool
def kvK (k : KD) : Value := .agg #[.int .i64 k.1, .int .i64 k.2.1, .bool k.2.2]
def kvP (x : (Nat × Nat) × Int) : Value := .agg #[.int .i64 (x.1.1 : Int), .int .u64 (x.1.2 : Int), .int .i64 x.2]
theorem three_of {α β : Type} {l : List α} {f : α → β} {x y z : β} (h : l.map f = [x, y, z]) : ∃ a b c, l = [a, b, c] ∧ f a = x ∧ f b = y ∧ f c = z := by
 match l, h with
 | [a, b, c], h => simp at h; exact ⟨a, b, c, rfl, h⟩
theorem two_of {α β : Type} {l : List α} {f : α → β} {x y : β} (h : l.map f = [x, y]) : ∃ a b, l = [a, b] ∧ f a = x ∧ f b = y := by
 match l, h with
 | [a, b], h => simp at h; exact ⟨a, b, rfl, h⟩
def fd (f : Field) : Bool × TypeId × Nat := (decide (f.name ≠ "_"), f.type, f.offset)
theorem fieldsK : ∃ a b c : Field, (Tryz.prog.fieldsOf 144).toList = [a, b, c] ∧ fd a = (true, 3, 0) ∧ fd b = (true, 3, 1) ∧ fd c = (true, 4, 2) := three_of (by kernel_rfl)
theorem fieldsP : ∃ a b : Field, (Tryz.prog.fieldsOf 148).toList = [a, b] ∧ fd a = (true, 130, 0) ∧ fd b = (true, 3, 2) := two_of (by kernel_rfl)
theorem fd_of {f : Field} {t : TypeId} {o : Nat} (h : fd f = (true, t, o)) : f.name ≠ "_" ∧ f.type = t ∧ f.offset = o := by
 unfold fd at h;simp only [Prod.mk.injEq, decide_eq_true_eq] at h;exact h
theorem eqK (a b : KD) (w : World) : (Op.equal 144 (kvK a) (kvK b)).run Tryz.prog w = .ok (decide (a = b)) w := by
 obtain ⟨f1, f2, f3, hf, h1, h2, h3⟩ := fieldsK;obtain ⟨n1, t1, o1⟩ := fd_of h1;obtain ⟨n2, t2, o2⟩ := fd_of h2;obtain ⟨n3, t3, o3⟩ := fd_of h3;obtain ⟨a1, a2, a3⟩ := a;obtain ⟨b1, b2, b3⟩ := b;unfold kvK Op.equal;rw [show Op.maxDepth = 9999 + 1 from rfl, run_equalIn_agg w 9999 144 _ _ (by kernel_rfl) (by kernel_rfl), hf];simp [Op.eqFields, n1, n2, n3, t1, t2, t3, o1, o2, o3, go_sem];by_cases e1 : a1 = b1 <;> by_cases e2 : a2 = b2 <;> by_cases e3 : a3 = b3 <;> simp [e1, e2, e3]
theorem eqP (a b : (Nat × Nat) × Int) (w : World) : (Op.equal 148 (kvP a) (kvP b)).run Tryz.prog w = .ok (decide (a = b)) w := by
 obtain ⟨f1, f2, hf, h1, h2⟩ := fieldsP;obtain ⟨n1, t1, o1⟩ := fd_of h1;obtain ⟨n2, t2, o2⟩ := fd_of h2;obtain ⟨⟨a1, a2⟩, a3⟩ := a;obtain ⟨⟨b1, b2⟩, b3⟩ := b;unfold kvP Op.equal;rw [show Op.maxDepth = 9999 + 1 from rfl, run_equalIn_agg w 9999 148 _ _ (by kernel_rfl) (by kernel_rfl), hf];simp [Op.eqFields, n1, n2, t1, t2, o1, o2, go_sem];by_cases e1 : a1 = b1 <;> by_cases e2 : a2 = b2 <;> by_cases e3 : a3 = b3 <;> simp [e1, e2, e3] <;> omega
theorem checkK (em : Bool) (k : KD) (w : World) : (Instr.checkKey em 10000 144 (kvK k)).run Tryz.prog w = .ok () w := by
 kernel_rfl
theorem checkP (em : Bool) (k : (Nat × Nat) × Int) (w : World) : (Instr.checkKey em 10000 148 (kvP k)).run Tryz.prog w = .ok () w := by
 kernel_rfl
theorem keyK : KeyOK (κ := KD) 144 kvK := KeyOK.ofAsk (kind := (Tryz.prog.underlying 144).get (by kernel_rfl)) (by simp) (fun a b => by kernel_rfl) (fun a b w => eqK a b w) checkK (fun k => by unfold kvK Instr.sameBits; simp [Instr.sameBits])
theorem keyP : KeyOK (κ := (Nat × Nat) × Int) 148 kvP := KeyOK.ofAsk (kind := (Tryz.prog.underlying 148).get (by kernel_rfl)) (by simp) (fun a b => by kernel_rfl) (fun a b w => eqP a b w) checkP (fun k => by unfold kvP Instr.sameBits; simp [Instr.sameBits])
theorem zeroB (w : World) : (zeroValue 4).run Tryz.prog w = .ok (.bool false) w := by kernel_rfl
theorem zeroU (w : World) : (zeroValue 102).run Tryz.prog w = .ok (.int .u64 0) w := by kernel_rfl
end Go.Proofs.YtkmdakampkfioaaGreatDoor
