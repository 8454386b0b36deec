/- awake draws a square: grid.Glyph's call. -/
import Derived.Test.YtkmdakampkfioaaGreatDoorA1
namespace Go.Proofs.YtkmdakampkfioaaGreatDoor.Ev
open Go Go.RowKit Go.Proofs
set_option maxRecDepth 100000
def args2 : List Value := [(.agg ⟨[(I 16), (S 6768 2 2), (S 7008 1 1), (S 7018 0 0), (S 7029 0 0), Z, Z, (S 7040 0 0), Z]⟩), (I 1), (I 16)]
def heap2 : Hp := hpL [(6727, (.row [(I 16), (S 10 2 2), (S 12 1 1), Z, Z, Z, Z, Z, Z] 34 .false)),
 (6728, (.row [(I 16), (S 6768 2 2), (S 7008 1 1), (S 7018 0 0), (S 7029 0 0), Z, Z, (S 7040 0 0), Z] 34 .false)),
 (6732, (.row [(I 16), (S 10 2 2), (S 12 1 1), Z, Z, Z, Z, Z, Z] 34 .false)),
 (6733, (.row [Z] 227 .false)),
 (6734, (.row [(I 0)] 45 .false)),
 (6761, (.map [] 0)),
 (6763, (.row [(I 16), (S 10 2 2), (S 12 1 1), Z, Z, Z, Z, Z, Z, Z, (.map (.some 6761))] 232 .false)),
 (6768, (.row [(.string (.mk ⟨[46, 110, 111, 116, 100, 101, 102]⟩)), (I 0), N, Z, Z, Z, Z, Z, Z, (.string (.mk ⟨[97]⟩)), (I 16), N, (S 6916 4 4), (S 6929 1 1), Z, Z, Z, Z] 60 .false)),
 (6778, (.row [(.string (.mk ⟨[46, 110, 111, 116, 100, 101, 102]⟩)), (I 0), N, Z, Z, Z, Z, Z, Z] 60 .false)),
 (6785, (.row [(I 16), (S 10 2 2), (S 12 1 1), Z, Z, Z, Z, Z, Z, Z, (.map (.some 6761))] 232 .false)),
 (6786, (.row [(.string (.mk ⟨[46, 110, 111, 116, 100, 101, 102]⟩)), (I 0), N, Z, Z, Z, Z, Z, Z] 60 .false)),
 (6787, (.row [(.string (.mk ⟨[46, 110, 111, 116, 100, 101, 102]⟩)), (I 0), N, Z, Z, Z, Z, Z, Z] 60 .false)),
 (6788, (.row [(I 0)] 45 .false)),
 (6791, (.row [(.string (.mk ⟨[46, 110, 111, 116, 100, 101, 102]⟩)), (I 0), N, Z, Z, Z, Z, Z, Z] 60 .false)),
 (6792, (.row [(.string (.mk ⟨[46, 110, 111, 116, 100, 101, 102]⟩)), (I 0), N, Z, Z, Z, Z, Z, Z] 60 .false)),
 (6842, (.row [(I 16), (S 10 2 2), (S 12 1 1), Z, Z, Z, Z, Z, Z, Z, (.map (.some 6761))] 232 .false)),
 (6843, (.row [(.string (.mk ⟨[46, 110, 111, 116, 100, 101, 102]⟩)), (I 0), N, Z, Z, Z, Z, Z, Z] 60 .false)),
 (6845, (.map [] 0)),
 (6854, (.iter (.some 6845) 0 ⟨[]⟩ 0)),
 (6877, (.row [(.string (.mk ⟨[97]⟩)), (I 16), N, (S 6 4 4), (S 7 1 1), Z, Z, Z, Z] 60 .false)),
 (6884, (.row [(I 16), (S 10 2 2), (S 12 1 1), Z, Z, Z, Z, Z, Z, Z, (.map (.some 6761))] 232 .false)),
 (6885, (.row [(.string (.mk ⟨[97]⟩)), (I 16), N, (S 6 4 4), (S 7 1 1), Z, Z, Z, Z] 60 .false)),
 (6886, (.row [(.string (.mk ⟨[97]⟩)), (I 16), N, (S 6916 4 4), (S 6929 1 1), Z, Z, Z, Z] 60 .false)),
 (6887, (.row [(I 0)] 45 .false)),
 (6890, (.row [(.string (.mk ⟨[97]⟩)), (I 16), N, (S 6 4 4), (S 7 1 1), Z, Z, Z, Z] 60 .false)),
 (6891, (.row [(.string (.mk ⟨[97]⟩)), (I 16), N, (S 6916 4 4), (S 6929 1 1), Z, Z, Z, Z] 60 .false)),
 (6916, (.row [(I 0), (I 0), T, (I 2), (I 0), T, (I 2), (I 2), T, (I 0), (I 2), T] 62 .false)),
 (6929, (.row [(I 3)] 3 .false)),
 (6957, (.row [(I 16), (S 10 2 2), (S 12 1 1), Z, Z, Z, Z, Z, Z, Z, (.map (.some 6761))] 232 .false)),
 (6958, (.row [(.string (.mk ⟨[97]⟩)), (I 16), N, (S 6 4 4), (S 7 1 1), Z, Z, Z, Z] 60 .false)),
 (6960, (.map [] 0)),
 (6969, (.iter (.some 6960) 0 ⟨[]⟩ 0)),
 (7008, (.row [(I 97), (I 1)] 64 .false)),
 (7018, (.row [] 40 .false)),
 (7029, (.row [] 88 .false)),
 (7040, (.row [] 58 .false)),
 (7059, (.row [(I 16), (S 6768 2 2), (S 7008 1 1), (S 7018 0 0), (S 7029 0 0), Z, Z, (S 7040 0 0), Z] 34 .false)),
 (7069, (.row [(.func (.func 29) ⟨[]⟩ ⟨[]⟩), (.func (.func 30) ⟨[]⟩ ⟨[]⟩)] 110 .false)),
 (7070, (.row [(I 16), (S 6768 2 2), (S 7008 1 1), (S 7018 0 0), (S 7029 0 0), Z, Z, (S 7040 0 0), Z] 34 .false)),
 (7074, (.map [] 0)),
 (7083, (.row [(I 1), (I 0), (I 0), (I 16), (I 0), (I 0)] 203 .false)),
 (7092, (.row [(I 0), (I 0), (I 0), (I 0), Z] 67 .false))] heap1'
def val2 : Value := (.tuple ⟨[(.agg ⟨[(S 11019 4 18446744073709551616), (S 11026 4 18446744073709551616), (S 11033 4 18446744073709551616), (S 11040 1 18446744073709551616)]⟩), (S 11291 4 4), (I 0)]⟩)
def heap2' : Hp := hpL [(11019, (.row [(I 0), (I 0), (I 128), (I 0), (I 128), (I 128), (I 0), (I 128)] 347 .true)),
 (11026, (.row [(I 0), (I 0), (I 128), (I 0), (I 128), (I 128), (I 0), (I 128)] 347 .true)),
 (11033, (.row [(I 0), (I 0), (I 0), (I 0)] 3 .true)),
 (11040, (.row [(I 3)] 3 .true)),
 (11291, (.row [T, T, T, T] 4 .false))] heap2
theorem m2 : checkM Tryz.prog O1 100000 30 args2 heap2 7103 val2 heap2' = true := by kernel_rfl
noncomputable def O2 : Memo Tryz.prog := Memo.add named0 mixed0 O1 100000 30 args2 heap2 7103 val2 heap2' 11370 m2
end Go.Proofs.YtkmdakampkfioaaGreatDoor.Ev
