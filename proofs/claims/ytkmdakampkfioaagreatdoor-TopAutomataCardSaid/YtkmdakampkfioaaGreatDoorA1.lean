/- awake draws a square: shape.Shape's call. -/
import Derived.Test.YtkmdakampkfioaaGreatDoorEB
import Derived.Test.YtkmdakampkfioaaGreatDoorProg
namespace Go.Proofs.YtkmdakampkfioaaGreatDoor.Ev
open Go Go.RowKit Go.Proofs
set_option maxRecDepth 100000
abbrev I (n : Int) : Value := .int .i64 n
abbrev S (b n c : Nat) : Value := .slice (some ⟨b, 0, none⟩) n c
abbrev Z : Value := .slice none 0 0
abbrev T : Value := .bool true
abbrev N : Value := .bool false
def hpL : List (Nat × AO) → Hp → Hp
  | [], h => h
  | (i, o) :: l, h => hpL l (h.set (some o) i)
def args1 : List Value := [(.agg ⟨[(I 16), (S 10 2 2), (S 12 1 1), Z, Z, Z, Z, Z, Z]⟩), (S 17 1 1), Z, Z]
def heap1 : Hp := hpL [(6, (.row [(I 0), (I 0), T, (I 2), (I 0), T, (I 2), (I 2), T, (I 0), (I 2), T] 62 .false)),
 (7, (.row [(I 3)] 3 .false)),
 (10, (.row [(.string (.mk ⟨[46, 110, 111, 116, 100, 101, 102]⟩)), (I 0), N, Z, Z, Z, Z, Z, Z, (.string (.mk ⟨[97]⟩)), (I 16), N, (S 6 4 4), (S 7 1 1), Z, Z, Z, Z] 60 .false)),
 (12, (.row [(I 97), (I 1)] 64 .false)),
 (14, (.row [(I 16), (S 10 2 2), (S 12 1 1), Z, Z, Z, Z, Z, Z] 34 .false)),
 (17, (.row [(I 97)] 3 .false)),
 (18, (.row [(I 16), (S 10 2 2), (S 12 1 1), Z, Z, Z, Z, Z, Z] 34 .false)),
 (19, (.row [(I 0), (I 0), (I 0), (I 0), Z] 67 .false)),
 (26, (.row [(S 17 1 1), Z, Z, (I 16)] 106 .false)),
 (31, (.row [(.func (.func 29) ⟨[]⟩ ⟨[]⟩), (.func (.func 30) ⟨[]⟩ ⟨[]⟩)] 110 .false)),
 (32, (.row [(I 16), (S 10 2 2), (S 12 1 1), Z, Z, Z, Z, Z, Z] 34 .false)),
 (33, (.row [(S 17 1 1), Z, Z, (I 16)] 106 .false)),
 (34, (.row [(I 0), (I 0), (I 0), (I 0), Z] 67 .false))] .e
def val1 : Value := (.tuple ⟨[(S 6664 1 18446744073709551616), (I 0)]⟩)
def heap1' : Hp := hpL [(6664, (.row [(I 1), (I 0), (I 0), (I 16), (I 0), (I 0)] 203 .true))] heap1
theorem namedB : (Tryz.prog.funcs.toList.all fun F => !(F.name == "runtime.NumGoroutine")) = true := by kernel_rfl
theorem named0 : named Tryz.prog := fun f F hf e => by
  have := List.all_eq_true.1 namedB F (List.mem_of_getElem? (by rw [Array.getElem?_toList]; exact hf))
  rw [e] at this
  cases this
theorem mixed0 : Tryz.prog.follows .mixedOrders = true := by kernel_rfl
theorem m1 : checkM Tryz.prog (.none Tryz.prog) 100000 29 args1 heap1 45 val1 heap1' = true := by kernel_rfl
noncomputable def O1 : Memo Tryz.prog := Memo.add named0 mixed0 (.none _) 100000 29 args1 heap1 45 val1 heap1' 6709 m1
end Go.Proofs.YtkmdakampkfioaaGreatDoor.Ev
