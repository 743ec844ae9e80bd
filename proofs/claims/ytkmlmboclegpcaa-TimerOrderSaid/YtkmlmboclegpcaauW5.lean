/- uT. -/
import Derived.Test.YtkmlmboclegpcaaW1
import Derived.Test.YtkmlmboclegpcaaW2
import Derived.Test.YtkmlmboclegpcaaW3
import Derived.Test.YtkmlmboclegpcaaW4
import Derived.Test.YtkmlmboclegpcaaProg
import Derived.KernelRfl
set_option linter.unusedVariables false
set_option linter.unusedSimpArgs false
namespace Go.Proofs.Ytkmlmboclegpcaa
open Go
def zBig25 : List Value := List.replicate 256 (.slice none 0 0)
def zBig26 : List Value := List.replicate 1024 (.slice none 0 0)
def zBig27 : List Value := [.int .i64 0] ++ List.replicate 1024 (.slice none 0 0)
def zBig28 : List Value := [.int .i64 0] ++ List.replicate 1024 (.slice none 0 0)
def zBig29 : List Value := [.int .i64 0] ++ (List.replicate 1024 (.slice none 0 0) ++ [.int .i64 0, .int .i64 0])
def zBig30 : List Value := [.int .i64 0] ++ (List.replicate 1024 (.slice none 0 0) ++ [.int .i64 0, .int .i64 0])
def zBig65 : List Value := List.replicate 256 (.bool false)
def zBig94 : List Value := [.int .i64 0] ++ (List.replicate 1024 (.slice none 0 0) ++ [.int .i64 0, .int .i64 0, .int .i64 0])
def zBig95 : List Value := [.int .i64 0] ++ (List.replicate 1024 (.slice none 0 0) ++ [.int .i64 0, .int .i64 0, .int .i64 0])
theorem ti1 : tiOf Try.prog 1 = some ⟨.other, 1, 8, [.nilFunc]⟩ := by kernel_rfl
theorem ti2 : tiOf Try.prog 2 = some ⟨.int .i64, 1, 8, [.int .i64 0]⟩ := by kernel_rfl
theorem ti3 : tiOf Try.prog 3 = some ⟨.int .i64, 1, 8, [.int .i64 0]⟩ := by kernel_rfl
theorem ti4 : tiOf Try.prog 4 = some ⟨.bool, 1, 1, [.bool false]⟩ := by kernel_rfl
theorem ti5 : tiOf Try.prog 5 = some ⟨.int .u8, 1, 1, [.int .u8 0]⟩ := by kernel_rfl
theorem ti6 : tiOf Try.prog 6 = some ⟨.int .u8, 1, 1, [.int .u8 0]⟩ := by kernel_rfl
theorem ti7 : tiOf Try.prog 7 = some ⟨.struct [(0, 1), (1, 1), (2, 1), (3, 1)], 4, 24, [.int .i64 0, .int .i64 0, .bool false, .int .u8 0]⟩ := by kernel_rfl
theorem ti8 : tiOf Try.prog 8 = some ⟨.struct [(0, 1), (1, 1), (2, 1), (3, 1)], 4, 24, [.int .i64 0, .int .i64 0, .bool false, .int .u8 0]⟩ := by kernel_rfl
theorem ti9 : tiOf Try.prog 9 = some ⟨.str, 1, 16, [.string ⟨#[]⟩]⟩ := by kernel_rfl
theorem ti10 : tiOf Try.prog 10 = some ⟨.str, 1, 16, [.string ⟨#[]⟩]⟩ := by kernel_rfl
theorem ti11 : tiOf Try.prog 11 = some ⟨.str, 1, 16, [.string ⟨#[]⟩]⟩ := by kernel_rfl
theorem ti12 : tiOf Try.prog 12 = some ⟨.int .u64, 1, 8, [.int .u64 0]⟩ := by kernel_rfl
theorem ti13 : tiOf Try.prog 13 = some ⟨.struct [(0, 1), (1, 1)], 2, 24, [.string ⟨#[]⟩, .int .u64 0]⟩ := by kernel_rfl
theorem ti14 : tiOf Try.prog 14 = some ⟨.struct [(0, 1), (1, 1)], 2, 24, [.string ⟨#[]⟩, .int .u64 0]⟩ := by kernel_rfl
theorem ti15 : tiOf Try.prog 15 = some ⟨.pointer 139, 1, 8, [.pointer none]⟩ := by kernel_rfl
theorem ti16 : tiOf Try.prog 16 = some ⟨.pointer 142, 1, 8, [.pointer none]⟩ := by kernel_rfl
theorem ti17 : tiOf Try.prog 17 = some ⟨.pointer 152, 1, 8, [.pointer none]⟩ := by kernel_rfl
theorem ti18 : tiOf Try.prog 18 = some ⟨.struct [(0, 1)], 1, 8, [.pointer none]⟩ := by kernel_rfl
theorem ti19 : tiOf Try.prog 19 = some ⟨.struct [(0, 1)], 1, 8, [.pointer none]⟩ := by kernel_rfl
theorem ti21 : tiOf Try.prog 21 = some ⟨.int .i32, 1, 4, [.int .i32 0]⟩ := by kernel_rfl
theorem ti22 : tiOf Try.prog 22 = some ⟨.slice 42, 1, 24, [.slice none 0 0]⟩ := by kernel_rfl
theorem ti23 : tiOf Try.prog 23 = some ⟨.other, 1, 8, [.nilFunc]⟩ := by kernel_rfl
theorem ti24 : tiOf Try.prog 24 = some ⟨.slice 44, 1, 24, [.slice none 0 0]⟩ := by kernel_rfl
theorem ti25 : tiOf Try.prog 25 = some ⟨.array 256 24, 256, 6144, zBig25⟩ := by kernel_rfl
theorem ti26 : tiOf Try.prog 26 = some ⟨.array 4 25, 1024, 24576, zBig26⟩ := by kernel_rfl
theorem ti27 : tiOf Try.prog 27 = some ⟨.struct [(0, 1), (1, 1024)], 1025, 24584, zBig27⟩ := by kernel_rfl
theorem ti28 : tiOf Try.prog 28 = some ⟨.struct [(0, 1), (1, 1024)], 1025, 24584, zBig28⟩ := by kernel_rfl
theorem ti29 : tiOf Try.prog 29 = some ⟨.struct [(0, 1025), (1025, 1), (1026, 1)], 1027, 24600, zBig29⟩ := by kernel_rfl
theorem ti30 : tiOf Try.prog 30 = some ⟨.struct [(0, 1025), (1025, 1), (1026, 1)], 1027, 24600, zBig30⟩ := by kernel_rfl
theorem ti31 : tiOf Try.prog 31 = some ⟨.int .i64, 1, 8, [.int .i64 0]⟩ := by kernel_rfl
theorem ti33 : tiOf Try.prog 33 = some ⟨.other, 1, 8, [.nilFunc]⟩ := by kernel_rfl
theorem ti34 : tiOf Try.prog 34 = some ⟨.struct [(0, 1), (1, 1)], 2, 32, [.int .i64 0, .slice none 0 0]⟩ := by kernel_rfl
theorem ti35 : tiOf Try.prog 35 = some ⟨.struct [(0, 1), (1, 1)], 2, 32, [.int .i64 0, .slice none 0 0]⟩ := by kernel_rfl
theorem ti36 : tiOf Try.prog 36 = some ⟨.struct [(0, 2), (2, 1)], 3, 40, [.int .i64 0, .slice none 0 0, .int .i64 0]⟩ := by kernel_rfl
theorem ti37 : tiOf Try.prog 37 = some ⟨.struct [(0, 2), (2, 1)], 3, 40, [.int .i64 0, .slice none 0 0, .int .i64 0]⟩ := by kernel_rfl
theorem ti39 : tiOf Try.prog 39 = some ⟨.other, 1, 8, [.nilFunc]⟩ := by kernel_rfl
theorem ti40 : tiOf Try.prog 40 = some ⟨.int .u16, 1, 2, [.int .u16 0]⟩ := by kernel_rfl
theorem ti41 : tiOf Try.prog 41 = some ⟨.struct [(0, 1), (1, 1), (2, 1), (3, 1), (4, 1)], 5, 32, [.int .u8 0, .int .i64 0, .int .i64 0, .bool false, .int .u16 0]⟩ := by kernel_rfl
theorem ti42 : tiOf Try.prog 42 = some ⟨.struct [(0, 1), (1, 1), (2, 1), (3, 1), (4, 1)], 5, 32, [.int .u8 0, .int .i64 0, .int .i64 0, .bool false, .int .u16 0]⟩ := by kernel_rfl
theorem ti43 : tiOf Try.prog 43 = some ⟨.struct [(0, 1), (1, 1), (2, 1), (3, 1), (4, 1), (5, 1)], 6, 48, [.int .i64 0, .int .i64 0, .int .i64 0, .int .i64 0, .int .i64 0, .int .i64 0]⟩ := by kernel_rfl
theorem ti44 : tiOf Try.prog 44 = some ⟨.struct [(0, 1), (1, 1), (2, 1), (3, 1), (4, 1), (5, 1)], 6, 48, [.int .i64 0, .int .i64 0, .int .i64 0, .int .i64 0, .int .i64 0, .int .i64 0]⟩ := by kernel_rfl
theorem ti45 : tiOf Try.prog 45 = some ⟨.other, 1, 8, [.nilFunc]⟩ := by kernel_rfl
theorem ti46 : tiOf Try.prog 46 = some ⟨.other, 1, 8, [.nilFunc]⟩ := by kernel_rfl
theorem ti48 : tiOf Try.prog 48 = some ⟨.other, 1, 8, [.nilFunc]⟩ := by kernel_rfl
theorem ti50 : tiOf Try.prog 50 = some ⟨.other, 1, 8, [.nilFunc]⟩ := by kernel_rfl
theorem ti52 : tiOf Try.prog 52 = some ⟨.other, 1, 8, [.nilFunc]⟩ := by kernel_rfl
theorem ti54 : tiOf Try.prog 54 = some ⟨.other, 1, 8, [.nilFunc]⟩ := by kernel_rfl
theorem ti55 : tiOf Try.prog 55 = some ⟨.other, 1, 8, [.nilFunc]⟩ := by kernel_rfl
theorem ti56 : tiOf Try.prog 56 = some ⟨.other, 1, 8, [.nilFunc]⟩ := by kernel_rfl
theorem ti57 : tiOf Try.prog 57 = some ⟨.other, 1, 8, [.nilFunc]⟩ := by kernel_rfl
theorem ti58 : tiOf Try.prog 58 = some ⟨.other, 1, 8, [.nilFunc]⟩ := by kernel_rfl
theorem ti59 : tiOf Try.prog 59 = some ⟨.other, 1, 8, [.nilFunc]⟩ := by kernel_rfl
theorem ti60 : tiOf Try.prog 60 = some ⟨.struct [(0, 1), (1, 1), (2, 1), (3, 1)], 4, 16, [.int .i64 0, .int .u16 0, .bool false, .int .u16 0]⟩ := by kernel_rfl
theorem ti61 : tiOf Try.prog 61 = some ⟨.struct [(0, 1), (1, 1), (2, 1), (3, 1)], 4, 16, [.int .i64 0, .int .u16 0, .bool false, .int .u16 0]⟩ := by kernel_rfl
theorem ti62 : tiOf Try.prog 62 = some ⟨.other, 1, 8, [.nilFunc]⟩ := by kernel_rfl
theorem ti63 : tiOf Try.prog 63 = some ⟨.other, 1, 8, [.nilFunc]⟩ := by kernel_rfl
theorem ti64 : tiOf Try.prog 64 = some ⟨.slice 5, 1, 24, [.slice none 0 0]⟩ := by kernel_rfl
theorem ti65 : tiOf Try.prog 65 = some ⟨.array 256 4, 256, 256, zBig65⟩ := by kernel_rfl
theorem ti66 : tiOf Try.prog 66 = some ⟨.other, 1, 8, [.nilFunc]⟩ := by kernel_rfl
theorem ti67 : tiOf Try.prog 67 = some ⟨.slice 84, 1, 24, [.slice none 0 0]⟩ := by kernel_rfl
theorem ti68 : tiOf Try.prog 68 = some ⟨.struct [(0, 1), (1, 1), (2, 1), (3, 1)], 4, 64, [.slice none 0 0, .slice none 0 0, .int .i64 0, .int .i64 0]⟩ := by kernel_rfl
theorem ti69 : tiOf Try.prog 69 = some ⟨.struct [(0, 1), (1, 1), (2, 1), (3, 1)], 4, 64, [.slice none 0 0, .slice none 0 0, .int .i64 0, .int .i64 0]⟩ := by kernel_rfl
theorem ti70 : tiOf Try.prog 70 = some ⟨.other, 1, 8, [.nilFunc]⟩ := by kernel_rfl
theorem ti71 : tiOf Try.prog 71 = some ⟨.other, 1, 8, [.nilFunc]⟩ := by kernel_rfl
theorem ti73 : tiOf Try.prog 73 = some ⟨.other, 1, 8, [.nilFunc]⟩ := by kernel_rfl
theorem ti75 : tiOf Try.prog 75 = some ⟨.other, 1, 8, [.nilFunc]⟩ := by kernel_rfl
theorem ti77 : tiOf Try.prog 77 = some ⟨.other, 1, 8, [.nilFunc]⟩ := by kernel_rfl
theorem ti79 : tiOf Try.prog 79 = some ⟨.other, 1, 8, [.nilFunc]⟩ := by kernel_rfl
theorem ti80 : tiOf Try.prog 80 = some ⟨.other, 1, 8, [.nilFunc]⟩ := by kernel_rfl
theorem ti81 : tiOf Try.prog 81 = some ⟨.other, 1, 8, [.nilFunc]⟩ := by kernel_rfl
theorem ti82 : tiOf Try.prog 82 = some ⟨.other, 1, 8, [.nilFunc]⟩ := by kernel_rfl
theorem ti83 : tiOf Try.prog 83 = some ⟨.struct [(0, 1), (1, 1), (2, 1), (3, 1)], 4, 32, [.int .i64 0, .int .i64 0, .int .i64 0, .bool false]⟩ := by kernel_rfl
theorem ti84 : tiOf Try.prog 84 = some ⟨.struct [(0, 1), (1, 1), (2, 1), (3, 1)], 4, 32, [.int .i64 0, .int .i64 0, .int .i64 0, .bool false]⟩ := by kernel_rfl
theorem ti85 : tiOf Try.prog 85 = some ⟨.other, 1, 8, [.nilFunc]⟩ := by kernel_rfl
theorem ti86 : tiOf Try.prog 86 = some ⟨.other, 1, 8, [.nilFunc]⟩ := by kernel_rfl
theorem ti87 : tiOf Try.prog 87 = some ⟨.struct [(0, 1), (1, 1), (2, 1), (3, 1)], 4, 40, [.slice none 0 0, .int .u8 0, .int .u8 0, .int .i64 0]⟩ := by kernel_rfl
theorem ti88 : tiOf Try.prog 88 = some ⟨.struct [(0, 1), (1, 1), (2, 1), (3, 1)], 4, 40, [.slice none 0 0, .int .u8 0, .int .u8 0, .int .i64 0]⟩ := by kernel_rfl
theorem ti89 : tiOf Try.prog 89 = some ⟨.other, 1, 8, [.nilFunc]⟩ := by kernel_rfl
theorem ti91 : tiOf Try.prog 91 = some ⟨.other, 1, 8, [.nilFunc]⟩ := by kernel_rfl
theorem ti93 : tiOf Try.prog 93 = some ⟨.other, 1, 8, [.nilFunc]⟩ := by kernel_rfl
theorem ti94 : tiOf Try.prog 94 = some ⟨.struct [(0, 1027), (1027, 1)], 1028, 24608, zBig94⟩ := by kernel_rfl
theorem ti95 : tiOf Try.prog 95 = some ⟨.struct [(0, 1027), (1027, 1)], 1028, 24608, zBig95⟩ := by kernel_rfl
theorem ti96 : tiOf Try.prog 96 = some ⟨.other, 1, 8, [.nilFunc]⟩ := by kernel_rfl
theorem ti97 : tiOf Try.prog 97 = some ⟨.other, 1, 8, [.nilFunc]⟩ := by kernel_rfl
theorem ti98 : tiOf Try.prog 98 = some ⟨.other, 1, 8, [.nilFunc]⟩ := by kernel_rfl
theorem ti99 : tiOf Try.prog 99 = some ⟨.other, 1, 8, [.nilFunc]⟩ := by kernel_rfl
theorem ti101 : tiOf Try.prog 101 = some ⟨.other, 1, 8, [.nilFunc]⟩ := by kernel_rfl
theorem ti103 : tiOf Try.prog 103 = some ⟨.other, 1, 8, [.nilFunc]⟩ := by kernel_rfl
theorem ti105 : tiOf Try.prog 105 = some ⟨.other, 1, 8, [.nilFunc]⟩ := by kernel_rfl
theorem ti106 : tiOf Try.prog 106 = some ⟨.other, 1, 8, [.nilFunc]⟩ := by kernel_rfl
theorem ti107 : tiOf Try.prog 107 = some ⟨.other, 1, 8, [.nilFunc]⟩ := by kernel_rfl
theorem ti108 : tiOf Try.prog 108 = some ⟨.other, 1, 8, [.nilFunc]⟩ := by kernel_rfl
theorem ti110 : tiOf Try.prog 110 = some ⟨.other, 1, 8, [.nilFunc]⟩ := by kernel_rfl
theorem ti111 : tiOf Try.prog 111 = some ⟨.other, 1, 8, [.nilFunc]⟩ := by kernel_rfl
theorem ti112 : tiOf Try.prog 112 = some ⟨.other, 1, 8, [.nilFunc]⟩ := by kernel_rfl
theorem ti113 : tiOf Try.prog 113 = some ⟨.pointer 84, 1, 8, [.pointer none]⟩ := by kernel_rfl
theorem ti114 : tiOf Try.prog 114 = some ⟨.other, 1, 8, [.nilFunc]⟩ := by kernel_rfl
theorem ti115 : tiOf Try.prog 115 = some ⟨.other, 1, 8, [.nilFunc]⟩ := by kernel_rfl
theorem ti116 : tiOf Try.prog 116 = some ⟨.other, 1, 8, [.nilFunc]⟩ := by kernel_rfl
theorem ti117 : tiOf Try.prog 117 = some ⟨.other, 1, 8, [.nilFunc]⟩ := by kernel_rfl
theorem ti118 : tiOf Try.prog 118 = some ⟨.other, 1, 8, [.nilFunc]⟩ := by kernel_rfl
theorem ti119 : tiOf Try.prog 119 = some ⟨.other, 1, 8, [.nilFunc]⟩ := by kernel_rfl
theorem ti120 : tiOf Try.prog 120 = some ⟨.other, 1, 8, [.nilFunc]⟩ := by kernel_rfl
theorem ti121 : tiOf Try.prog 121 = some ⟨.other, 1, 8, [.nilFunc]⟩ := by kernel_rfl
theorem ti122 : tiOf Try.prog 122 = some ⟨.other, 1, 8, [.nilFunc]⟩ := by kernel_rfl
theorem ti123 : tiOf Try.prog 123 = some ⟨.pointer 24, 1, 8, [.pointer none]⟩ := by kernel_rfl
theorem ti124 : tiOf Try.prog 124 = some ⟨.other, 1, 8, [.nilFunc]⟩ := by kernel_rfl
theorem ti125 : tiOf Try.prog 125 = some ⟨.other, 1, 8, [.nilFunc]⟩ := by kernel_rfl
theorem ti126 : tiOf Try.prog 126 = some ⟨.other, 1, 8, [.nilFunc]⟩ := by kernel_rfl
theorem ti127 : tiOf Try.prog 127 = some ⟨.other, 1, 8, [.nilFunc]⟩ := by kernel_rfl
theorem ti128 : tiOf Try.prog 128 = some ⟨.other, 1, 8, [.nilFunc]⟩ := by kernel_rfl
theorem ti129 : tiOf Try.prog 129 = some ⟨.other, 1, 8, [.nilFunc]⟩ := by kernel_rfl
theorem ti130 : tiOf Try.prog 130 = some ⟨.other, 1, 8, [.nilFunc]⟩ := by kernel_rfl
theorem ti131 : tiOf Try.prog 131 = some ⟨.other, 1, 8, [.nilFunc]⟩ := by kernel_rfl
theorem ti132 : tiOf Try.prog 132 = some ⟨.other, 1, 8, [.nilFunc]⟩ := by kernel_rfl
theorem ti133 : tiOf Try.prog 133 = some ⟨.other, 1, 8, [.nilFunc]⟩ := by kernel_rfl
theorem ti134 : tiOf Try.prog 134 = some ⟨.slice 3, 1, 24, [.slice none 0 0]⟩ := by kernel_rfl
theorem ti135 : tiOf Try.prog 135 = some ⟨.other, 1, 8, [.nilFunc]⟩ := by kernel_rfl
theorem ti136 : tiOf Try.prog 136 = some ⟨.int .u64, 1, 8, [.int .u64 0]⟩ := by kernel_rfl
theorem ti137 : tiOf Try.prog 137 = some ⟨.other, 1, 8, [.nilFunc]⟩ := by kernel_rfl
theorem ti138 : tiOf Try.prog 138 = some ⟨.struct [(0, 1), (1, 1), (2, 1), (3, 1)], 4, 40, [.pointer none, .pointer none, .pointer none, .string ⟨#[]⟩]⟩ := by kernel_rfl
theorem ti139 : tiOf Try.prog 139 = some ⟨.struct [(0, 1), (1, 1), (2, 1), (3, 1)], 4, 40, [.pointer none, .pointer none, .pointer none, .string ⟨#[]⟩]⟩ := by kernel_rfl
theorem ti140 : tiOf Try.prog 140 = some ⟨.array 0 16, 0, 0, []⟩ := by kernel_rfl
theorem ti141 : tiOf Try.prog 141 = some ⟨.struct [(0, 0)], 0, 0, []⟩ := by kernel_rfl
theorem ti142 : tiOf Try.prog 142 = some ⟨.struct [(0, 0)], 0, 0, []⟩ := by kernel_rfl
theorem ti143 : tiOf Try.prog 143 = some ⟨.other, 1, 8, [.nilFunc]⟩ := by kernel_rfl
theorem ti144 : tiOf Try.prog 144 = some ⟨.int .u32, 1, 4, [.int .u32 0]⟩ := by kernel_rfl
theorem ti145 : tiOf Try.prog 145 = some ⟨.int .u8, 1, 1, [.int .u8 0]⟩ := by kernel_rfl
theorem ti146 : tiOf Try.prog 146 = some ⟨.int .u8, 1, 1, [.int .u8 0]⟩ := by kernel_rfl
theorem ti147 : tiOf Try.prog 147 = some ⟨.other, 1, 8, [.nilFunc]⟩ := by kernel_rfl
theorem ti148 : tiOf Try.prog 148 = some ⟨.pointer 5, 1, 8, [.pointer none]⟩ := by kernel_rfl
theorem ti149 : tiOf Try.prog 149 = some ⟨.int .i32, 1, 4, [.int .i32 0]⟩ := by kernel_rfl
theorem ti150 : tiOf Try.prog 150 = some ⟨.int .i32, 1, 4, [.int .i32 0]⟩ := by kernel_rfl
theorem ti151 : tiOf Try.prog 151 = some ⟨.struct [(0, 1), (1, 1), (2, 1), (3, 1), (4, 1), (5, 1), (6, 1), (7, 1), (8, 1), (9, 1), (10, 1)], 11, 48, [.int .u64 0, .int .u64 0, .int .u32 0, .int .u8 0, .int .u8 0, .int .u8 0, .int .u8 0, .nilFunc, .pointer none, .int .i32 0, .int .i32 0]⟩ := by kernel_rfl
theorem ti152 : tiOf Try.prog 152 = some ⟨.struct [(0, 1), (1, 1), (2, 1), (3, 1), (4, 1), (5, 1), (6, 1), (7, 1), (8, 1), (9, 1), (10, 1)], 11, 48, [.int .u64 0, .int .u64 0, .int .u32 0, .int .u8 0, .int .u8 0, .int .u8 0, .int .u8 0, .nilFunc, .pointer none, .int .i32 0, .int .i32 0]⟩ := by kernel_rfl
def ttL : List (Nat × TI) := [
 (1, ⟨.other, 1, 8, [.nilFunc]⟩),
 (2, ⟨.int .i64, 1, 8, [.int .i64 0]⟩),
 (3, ⟨.int .i64, 1, 8, [.int .i64 0]⟩),
 (4, ⟨.bool, 1, 1, [.bool false]⟩),
 (5, ⟨.int .u8, 1, 1, [.int .u8 0]⟩),
 (6, ⟨.int .u8, 1, 1, [.int .u8 0]⟩),
 (7, ⟨.struct [(0, 1), (1, 1), (2, 1), (3, 1)], 4, 24, [.int .i64 0, .int .i64 0, .bool false, .int .u8 0]⟩),
 (8, ⟨.struct [(0, 1), (1, 1), (2, 1), (3, 1)], 4, 24, [.int .i64 0, .int .i64 0, .bool false, .int .u8 0]⟩),
 (9, ⟨.str, 1, 16, [.string ⟨#[]⟩]⟩),
 (10, ⟨.str, 1, 16, [.string ⟨#[]⟩]⟩),
 (11, ⟨.str, 1, 16, [.string ⟨#[]⟩]⟩),
 (12, ⟨.int .u64, 1, 8, [.int .u64 0]⟩),
 (13, ⟨.struct [(0, 1), (1, 1)], 2, 24, [.string ⟨#[]⟩, .int .u64 0]⟩),
 (14, ⟨.struct [(0, 1), (1, 1)], 2, 24, [.string ⟨#[]⟩, .int .u64 0]⟩),
 (15, ⟨.pointer 139, 1, 8, [.pointer none]⟩),
 (16, ⟨.pointer 142, 1, 8, [.pointer none]⟩),
 (17, ⟨.pointer 152, 1, 8, [.pointer none]⟩),
 (18, ⟨.struct [(0, 1)], 1, 8, [.pointer none]⟩),
 (19, ⟨.struct [(0, 1)], 1, 8, [.pointer none]⟩),
 (21, ⟨.int .i32, 1, 4, [.int .i32 0]⟩),
 (22, ⟨.slice 42, 1, 24, [.slice none 0 0]⟩),
 (23, ⟨.other, 1, 8, [.nilFunc]⟩),
 (24, ⟨.slice 44, 1, 24, [.slice none 0 0]⟩),
 (25, ⟨.array 256 24, 256, 6144, zBig25⟩),
 (26, ⟨.array 4 25, 1024, 24576, zBig26⟩),
 (27, ⟨.struct [(0, 1), (1, 1024)], 1025, 24584, zBig27⟩),
 (28, ⟨.struct [(0, 1), (1, 1024)], 1025, 24584, zBig28⟩),
 (29, ⟨.struct [(0, 1025), (1025, 1), (1026, 1)], 1027, 24600, zBig29⟩),
 (30, ⟨.struct [(0, 1025), (1025, 1), (1026, 1)], 1027, 24600, zBig30⟩),
 (31, ⟨.int .i64, 1, 8, [.int .i64 0]⟩),
 (33, ⟨.other, 1, 8, [.nilFunc]⟩),
 (34, ⟨.struct [(0, 1), (1, 1)], 2, 32, [.int .i64 0, .slice none 0 0]⟩),
 (35, ⟨.struct [(0, 1), (1, 1)], 2, 32, [.int .i64 0, .slice none 0 0]⟩),
 (36, ⟨.struct [(0, 2), (2, 1)], 3, 40, [.int .i64 0, .slice none 0 0, .int .i64 0]⟩),
 (37, ⟨.struct [(0, 2), (2, 1)], 3, 40, [.int .i64 0, .slice none 0 0, .int .i64 0]⟩),
 (39, ⟨.other, 1, 8, [.nilFunc]⟩),
 (40, ⟨.int .u16, 1, 2, [.int .u16 0]⟩),
 (41, ⟨.struct [(0, 1), (1, 1), (2, 1), (3, 1), (4, 1)], 5, 32, [.int .u8 0, .int .i64 0, .int .i64 0, .bool false, .int .u16 0]⟩),
 (42, ⟨.struct [(0, 1), (1, 1), (2, 1), (3, 1), (4, 1)], 5, 32, [.int .u8 0, .int .i64 0, .int .i64 0, .bool false, .int .u16 0]⟩),
 (43, ⟨.struct [(0, 1), (1, 1), (2, 1), (3, 1), (4, 1), (5, 1)], 6, 48, [.int .i64 0, .int .i64 0, .int .i64 0, .int .i64 0, .int .i64 0, .int .i64 0]⟩),
 (44, ⟨.struct [(0, 1), (1, 1), (2, 1), (3, 1), (4, 1), (5, 1)], 6, 48, [.int .i64 0, .int .i64 0, .int .i64 0, .int .i64 0, .int .i64 0, .int .i64 0]⟩),
 (45, ⟨.other, 1, 8, [.nilFunc]⟩),
 (46, ⟨.other, 1, 8, [.nilFunc]⟩),
 (48, ⟨.other, 1, 8, [.nilFunc]⟩),
 (50, ⟨.other, 1, 8, [.nilFunc]⟩),
 (52, ⟨.other, 1, 8, [.nilFunc]⟩),
 (54, ⟨.other, 1, 8, [.nilFunc]⟩),
 (55, ⟨.other, 1, 8, [.nilFunc]⟩),
 (56, ⟨.other, 1, 8, [.nilFunc]⟩),
 (57, ⟨.other, 1, 8, [.nilFunc]⟩),
 (58, ⟨.other, 1, 8, [.nilFunc]⟩),
 (59, ⟨.other, 1, 8, [.nilFunc]⟩),
 (60, ⟨.struct [(0, 1), (1, 1), (2, 1), (3, 1)], 4, 16, [.int .i64 0, .int .u16 0, .bool false, .int .u16 0]⟩),
 (61, ⟨.struct [(0, 1), (1, 1), (2, 1), (3, 1)], 4, 16, [.int .i64 0, .int .u16 0, .bool false, .int .u16 0]⟩),
 (62, ⟨.other, 1, 8, [.nilFunc]⟩),
 (63, ⟨.other, 1, 8, [.nilFunc]⟩),
 (64, ⟨.slice 5, 1, 24, [.slice none 0 0]⟩),
 (65, ⟨.array 256 4, 256, 256, zBig65⟩),
 (66, ⟨.other, 1, 8, [.nilFunc]⟩),
 (67, ⟨.slice 84, 1, 24, [.slice none 0 0]⟩),
 (68, ⟨.struct [(0, 1), (1, 1), (2, 1), (3, 1)], 4, 64, [.slice none 0 0, .slice none 0 0, .int .i64 0, .int .i64 0]⟩),
 (69, ⟨.struct [(0, 1), (1, 1), (2, 1), (3, 1)], 4, 64, [.slice none 0 0, .slice none 0 0, .int .i64 0, .int .i64 0]⟩),
 (70, ⟨.other, 1, 8, [.nilFunc]⟩),
 (71, ⟨.other, 1, 8, [.nilFunc]⟩),
 (73, ⟨.other, 1, 8, [.nilFunc]⟩),
 (75, ⟨.other, 1, 8, [.nilFunc]⟩),
 (77, ⟨.other, 1, 8, [.nilFunc]⟩),
 (79, ⟨.other, 1, 8, [.nilFunc]⟩),
 (80, ⟨.other, 1, 8, [.nilFunc]⟩),
 (81, ⟨.other, 1, 8, [.nilFunc]⟩),
 (82, ⟨.other, 1, 8, [.nilFunc]⟩),
 (83, ⟨.struct [(0, 1), (1, 1), (2, 1), (3, 1)], 4, 32, [.int .i64 0, .int .i64 0, .int .i64 0, .bool false]⟩),
 (84, ⟨.struct [(0, 1), (1, 1), (2, 1), (3, 1)], 4, 32, [.int .i64 0, .int .i64 0, .int .i64 0, .bool false]⟩),
 (85, ⟨.other, 1, 8, [.nilFunc]⟩),
 (86, ⟨.other, 1, 8, [.nilFunc]⟩),
 (87, ⟨.struct [(0, 1), (1, 1), (2, 1), (3, 1)], 4, 40, [.slice none 0 0, .int .u8 0, .int .u8 0, .int .i64 0]⟩),
 (88, ⟨.struct [(0, 1), (1, 1), (2, 1), (3, 1)], 4, 40, [.slice none 0 0, .int .u8 0, .int .u8 0, .int .i64 0]⟩),
 (89, ⟨.other, 1, 8, [.nilFunc]⟩),
 (91, ⟨.other, 1, 8, [.nilFunc]⟩),
 (93, ⟨.other, 1, 8, [.nilFunc]⟩),
 (94, ⟨.struct [(0, 1027), (1027, 1)], 1028, 24608, zBig94⟩),
 (95, ⟨.struct [(0, 1027), (1027, 1)], 1028, 24608, zBig95⟩),
 (96, ⟨.other, 1, 8, [.nilFunc]⟩),
 (97, ⟨.other, 1, 8, [.nilFunc]⟩),
 (98, ⟨.other, 1, 8, [.nilFunc]⟩),
 (99, ⟨.other, 1, 8, [.nilFunc]⟩),
 (101, ⟨.other, 1, 8, [.nilFunc]⟩),
 (103, ⟨.other, 1, 8, [.nilFunc]⟩),
 (105, ⟨.other, 1, 8, [.nilFunc]⟩),
 (106, ⟨.other, 1, 8, [.nilFunc]⟩),
 (107, ⟨.other, 1, 8, [.nilFunc]⟩),
 (108, ⟨.other, 1, 8, [.nilFunc]⟩),
 (110, ⟨.other, 1, 8, [.nilFunc]⟩),
 (111, ⟨.other, 1, 8, [.nilFunc]⟩),
 (112, ⟨.other, 1, 8, [.nilFunc]⟩),
 (113, ⟨.pointer 84, 1, 8, [.pointer none]⟩),
 (114, ⟨.other, 1, 8, [.nilFunc]⟩),
 (115, ⟨.other, 1, 8, [.nilFunc]⟩),
 (116, ⟨.other, 1, 8, [.nilFunc]⟩),
 (117, ⟨.other, 1, 8, [.nilFunc]⟩),
 (118, ⟨.other, 1, 8, [.nilFunc]⟩),
 (119, ⟨.other, 1, 8, [.nilFunc]⟩),
 (120, ⟨.other, 1, 8, [.nilFunc]⟩),
 (121, ⟨.other, 1, 8, [.nilFunc]⟩),
 (122, ⟨.other, 1, 8, [.nilFunc]⟩),
 (123, ⟨.pointer 24, 1, 8, [.pointer none]⟩),
 (124, ⟨.other, 1, 8, [.nilFunc]⟩),
 (125, ⟨.other, 1, 8, [.nilFunc]⟩),
 (126, ⟨.other, 1, 8, [.nilFunc]⟩),
 (127, ⟨.other, 1, 8, [.nilFunc]⟩),
 (128, ⟨.other, 1, 8, [.nilFunc]⟩),
 (129, ⟨.other, 1, 8, [.nilFunc]⟩),
 (130, ⟨.other, 1, 8, [.nilFunc]⟩),
 (131, ⟨.other, 1, 8, [.nilFunc]⟩),
 (132, ⟨.other, 1, 8, [.nilFunc]⟩),
 (133, ⟨.other, 1, 8, [.nilFunc]⟩),
 (134, ⟨.slice 3, 1, 24, [.slice none 0 0]⟩),
 (135, ⟨.other, 1, 8, [.nilFunc]⟩),
 (136, ⟨.int .u64, 1, 8, [.int .u64 0]⟩),
 (137, ⟨.other, 1, 8, [.nilFunc]⟩),
 (138, ⟨.struct [(0, 1), (1, 1), (2, 1), (3, 1)], 4, 40, [.pointer none, .pointer none, .pointer none, .string ⟨#[]⟩]⟩),
 (139, ⟨.struct [(0, 1), (1, 1), (2, 1), (3, 1)], 4, 40, [.pointer none, .pointer none, .pointer none, .string ⟨#[]⟩]⟩),
 (140, ⟨.array 0 16, 0, 0, []⟩),
 (141, ⟨.struct [(0, 0)], 0, 0, []⟩),
 (142, ⟨.struct [(0, 0)], 0, 0, []⟩),
 (143, ⟨.other, 1, 8, [.nilFunc]⟩),
 (144, ⟨.int .u32, 1, 4, [.int .u32 0]⟩),
 (145, ⟨.int .u8, 1, 1, [.int .u8 0]⟩),
 (146, ⟨.int .u8, 1, 1, [.int .u8 0]⟩),
 (147, ⟨.other, 1, 8, [.nilFunc]⟩),
 (148, ⟨.pointer 5, 1, 8, [.pointer none]⟩),
 (149, ⟨.int .i32, 1, 4, [.int .i32 0]⟩),
 (150, ⟨.int .i32, 1, 4, [.int .i32 0]⟩),
 (151, ⟨.struct [(0, 1), (1, 1), (2, 1), (3, 1), (4, 1), (5, 1), (6, 1), (7, 1), (8, 1), (9, 1), (10, 1)], 11, 48, [.int .u64 0, .int .u64 0, .int .u32 0, .int .u8 0, .int .u8 0, .int .u8 0, .int .u8 0, .nilFunc, .pointer none, .int .i32 0, .int .i32 0]⟩),
 (152, ⟨.struct [(0, 1), (1, 1), (2, 1), (3, 1), (4, 1), (5, 1), (6, 1), (7, 1), (8, 1), (9, 1), (10, 1)], 11, 48, [.int .u64 0, .int .u64 0, .int .u32 0, .int .u8 0, .int .u8 0, .int .u8 0, .int .u8 0, .nilFunc, .pointer none, .int .i32 0, .int .i32 0]⟩)]
def tt : Nat → Option TI := lkT ttL
theorem tok : ∀ t ti, tt t = some ti → tiOf Try.prog t = some ti := lkT_ok Try.prog ttL ⟨ti1, ti2, ti3, ti4, ti5, ti6, ti7, ti8, ti9, ti10, ti11, ti12, ti13, ti14, ti15, ti16, ti17, ti18, ti19, ti21, ti22, ti23, ti24, ti25, ti26, ti27, ti28, ti29, ti30, ti31, ti33, ti34, ti35, ti36, ti37, ti39, ti40, ti41, ti42, ti43, ti44, ti45, ti46, ti48, ti50, ti52, ti54, ti55, ti56, ti57, ti58, ti59, ti60, ti61, ti62, ti63, ti64, ti65, ti66, ti67, ti68, ti69, ti70, ti71, ti73, ti75, ti77, ti79, ti80, ti81, ti82, ti83, ti84, ti85, ti86, ti87, ti88, ti89, ti91, ti93, ti94, ti95, ti96, ti97, ti98, ti99, ti101, ti103, ti105, ti106, ti107, ti108, ti110, ti111, ti112, ti113, ti114, ti115, ti116, ti117, ti118, ti119, ti120, ti121, ti122, ti123, ti124, ti125, ti126, ti127, ti128, ti129, ti130, ti131, ti132, ti133, ti134, ti135, ti136, ti137, ti138, ti139, ti140, ti141, ti142, ti143, ti144, ti145, ti146, ti147, ti148, ti149, ti150, ti151, ti152, trivial⟩
theorem hmix : Try.prog.follows .mixedOrders = true := by kernel_rfl
theorem goF {f : FuncId} {fn : Func} {code : Code} {args : List AV} {res : AV} (hf : Try.prog.funcs[f]? = some fn) (hcl : ∀ x, x ∈ args → Closed x) (h : ∀ (w0 : World) (st0 : Nat → Prop), awp ⟨Try.prog, tt, tok, fn.ntmps, w0, st0, fun _ => False, (none, false), RC.bare st0⟩ code ⟨frOf 0 args, [], 0⟩ (retA ⟨Try.prog, tt, tok, fn.ntmps, w0, st0, fun _ => False, (none, false), RC.bare st0⟩ fn.results res)) (hb : fn.body = some code := by exact rfl) (hn : (fn.name == "runtime.NumGoroutine") = false := by kernel_rfl) (hlen : Nat.ble args.length fn.ntmps = true := by kernel_rfl) : FnC Try.prog f args res := FnC.of_awp (T := tt) (ok := tok) hf hn hb hlen hcl h
theorem goA {p q : Prop} (n : q) (h : q → p := by first | exact awp_seq | exact awp_block | exact awp_rg hmix | exact fun h => ARun.o rfl h) : p := h n
theorem goN {p q : Prop} (n : q) (h : q → p := by first | exact awp_seq | exact awp_block) : p := h n
theorem goB {p q : Prop} (n : q) (h : q → p := by first | (first | refine fun h => ARun.f ?_ | refine fun h => awp_skip ?_ | refine fun h => awp_exit ?_); dsimp only [thenA, blockA, AS.bump, List.length_cons, List.length_nil, reduceIte, Nat.reduceEqDiff]; exact h | exact fun h => awp_cT rfl h | exact fun h => awp_cF rfl h | ((fail_if_success refine fun h => ARun.plain rfl ?_); first | exact fun h => ARun.kT rfl rfl rfl h | exact fun h => ARun.kF rfl rfl rfl h)) : p := h n
end Go.Proofs.Ytkmlmboclegpcaa
