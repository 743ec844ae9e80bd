/- wT. -/
import Derived.Test.YtfaclpcdeflgfaaW1
import Derived.Test.YtfaclpcdeflgfaaW2
import Derived.Test.YtfaclpcdeflgfaaW3
import Derived.Test.YtfaclpcdeflgfaaW4
import Derived.Test.YtfaclpcdeflgfaaProg
import Derived.KernelRfl
set_option linter.unusedVariables false
set_option linter.unusedSimpArgs false
namespace Go.Proofs.Ytfaclpcdeflgfaa
open Go
def zBig25 : List Value := [] ++ List.replicate 256 (.slice none 0 0)
def zBig26 : List Value := [] ++ List.replicate 1024 (.slice none 0 0)
def zBig27 : List Value := [.int .i64 0] ++ List.replicate 1024 (.slice none 0 0)
def zBig28 : List Value := [.int .i64 0] ++ List.replicate 1024 (.slice none 0 0)
theorem ti1 : tiOf Try.prog 1 = some ⟨.other, 1, 8, [.nilFunc]⟩ := by kernel_rfl
theorem ti2 : tiOf Try.prog 2 = some ⟨.int .i64, 1, 8, [.int .i64 0]⟩ := by kernel_rfl
theorem ti3 : tiOf Try.prog 3 = some ⟨.int .i64, 1, 8, [.int .i64 0]⟩ := by kernel_rfl
theorem ti4 : tiOf Try.prog 4 = some ⟨.bool, 1, 1, [.bool false]⟩ := by kernel_rfl
theorem ti5 : tiOf Try.prog 5 = some ⟨.int .u8, 1, 1, [.int .u8 0]⟩ := by kernel_rfl
theorem ti6 : tiOf Try.prog 6 = some ⟨.int .u8, 1, 1, [.int .u8 0]⟩ := by kernel_rfl
theorem ti7 : tiOf Try.prog 7 = some ⟨.struct [(0, 1), (1, 1), (2, 1), (3, 1)], 4, 24, [.int .i64 0, .int .i64 0, .bool false, .int .u8 0]⟩ := by kernel_rfl
theorem ti8 : tiOf Try.prog 8 = some ⟨.struct [(0, 1), (1, 1), (2, 1), (3, 1)], 4, 24, [.int .i64 0, .int .i64 0, .bool false, .int .u8 0]⟩ := by kernel_rfl
theorem ti9 : tiOf Try.prog 9 = some ⟨.str, 1, 16, [.string ⟨#[]⟩]⟩ := by kernel_rfl
theorem ti10 : tiOf Try.prog 10 = some ⟨.str, 1, 16, [.string ⟨#[]⟩]⟩ := by kernel_rfl
theorem ti11 : tiOf Try.prog 11 = some ⟨.str, 1, 16, [.string ⟨#[]⟩]⟩ := by kernel_rfl
theorem ti12 : tiOf Try.prog 12 = some ⟨.int .u64, 1, 8, [.int .u64 0]⟩ := by kernel_rfl
theorem ti13 : tiOf Try.prog 13 = some ⟨.struct [(0, 1), (1, 1)], 2, 24, [.string ⟨#[]⟩, .int .u64 0]⟩ := by kernel_rfl
theorem ti14 : tiOf Try.prog 14 = some ⟨.struct [(0, 1), (1, 1)], 2, 24, [.string ⟨#[]⟩, .int .u64 0]⟩ := by kernel_rfl
theorem ti15 : tiOf Try.prog 15 = some ⟨.pointer 86, 1, 8, [.pointer none]⟩ := by kernel_rfl
theorem ti16 : tiOf Try.prog 16 = some ⟨.pointer 89, 1, 8, [.pointer none]⟩ := by kernel_rfl
theorem ti17 : tiOf Try.prog 17 = some ⟨.pointer 99, 1, 8, [.pointer none]⟩ := by kernel_rfl
theorem ti18 : tiOf Try.prog 18 = some ⟨.struct [(0, 1)], 1, 8, [.pointer none]⟩ := by kernel_rfl
theorem ti19 : tiOf Try.prog 19 = some ⟨.struct [(0, 1)], 1, 8, [.pointer none]⟩ := by kernel_rfl
theorem ti21 : tiOf Try.prog 21 = some ⟨.int .i32, 1, 4, [.int .i32 0]⟩ := by kernel_rfl
theorem ti22 : tiOf Try.prog 22 = some ⟨.slice 38, 1, 24, [.slice none 0 0]⟩ := by kernel_rfl
theorem ti23 : tiOf Try.prog 23 = some ⟨.other, 1, 8, [.nilFunc]⟩ := by kernel_rfl
theorem ti24 : tiOf Try.prog 24 = some ⟨.slice 40, 1, 24, [.slice none 0 0]⟩ := by kernel_rfl
theorem ti25 : tiOf Try.prog 25 = some ⟨.array 256 24, 256, 6144, zBig25⟩ := by kernel_rfl
theorem ti26 : tiOf Try.prog 26 = some ⟨.array 4 25, 1024, 24576, zBig26⟩ := by kernel_rfl
theorem ti27 : tiOf Try.prog 27 = some ⟨.struct [(0, 1), (1, 1024)], 1025, 24584, zBig27⟩ := by kernel_rfl
theorem ti28 : tiOf Try.prog 28 = some ⟨.struct [(0, 1), (1, 1024)], 1025, 24584, zBig28⟩ := by kernel_rfl
theorem ti29 : tiOf Try.prog 29 = some ⟨.int .i64, 1, 8, [.int .i64 0]⟩ := by kernel_rfl
theorem ti31 : tiOf Try.prog 31 = some ⟨.other, 1, 8, [.nilFunc]⟩ := by kernel_rfl
theorem ti32 : tiOf Try.prog 32 = some ⟨.struct [(0, 1), (1, 1)], 2, 32, [.int .i64 0, .slice none 0 0]⟩ := by kernel_rfl
theorem ti33 : tiOf Try.prog 33 = some ⟨.struct [(0, 1), (1, 1)], 2, 32, [.int .i64 0, .slice none 0 0]⟩ := by kernel_rfl
theorem ti35 : tiOf Try.prog 35 = some ⟨.other, 1, 8, [.nilFunc]⟩ := by kernel_rfl
theorem ti36 : tiOf Try.prog 36 = some ⟨.int .u16, 1, 2, [.int .u16 0]⟩ := by kernel_rfl
theorem ti37 : tiOf Try.prog 37 = some ⟨.struct [(0, 1), (1, 1), (2, 1), (3, 1)], 4, 32, [.int .u8 0, .int .i64 0, .int .i64 0, .int .u16 0]⟩ := by kernel_rfl
theorem ti38 : tiOf Try.prog 38 = some ⟨.struct [(0, 1), (1, 1), (2, 1), (3, 1)], 4, 32, [.int .u8 0, .int .i64 0, .int .i64 0, .int .u16 0]⟩ := by kernel_rfl
theorem ti39 : tiOf Try.prog 39 = some ⟨.struct [(0, 1), (1, 1), (2, 1), (3, 1), (4, 1), (5, 1)], 6, 48, [.int .i64 0, .int .i64 0, .int .i64 0, .int .i64 0, .int .i64 0, .int .i64 0]⟩ := by kernel_rfl
theorem ti40 : tiOf Try.prog 40 = some ⟨.struct [(0, 1), (1, 1), (2, 1), (3, 1), (4, 1), (5, 1)], 6, 48, [.int .i64 0, .int .i64 0, .int .i64 0, .int .i64 0, .int .i64 0, .int .i64 0]⟩ := by kernel_rfl
theorem ti41 : tiOf Try.prog 41 = some ⟨.other, 1, 8, [.nilFunc]⟩ := by kernel_rfl
theorem ti42 : tiOf Try.prog 42 = some ⟨.other, 1, 8, [.nilFunc]⟩ := by kernel_rfl
theorem ti44 : tiOf Try.prog 44 = some ⟨.other, 1, 8, [.nilFunc]⟩ := by kernel_rfl
theorem ti46 : tiOf Try.prog 46 = some ⟨.other, 1, 8, [.nilFunc]⟩ := by kernel_rfl
theorem ti48 : tiOf Try.prog 48 = some ⟨.other, 1, 8, [.nilFunc]⟩ := by kernel_rfl
theorem ti50 : tiOf Try.prog 50 = some ⟨.other, 1, 8, [.nilFunc]⟩ := by kernel_rfl
theorem ti51 : tiOf Try.prog 51 = some ⟨.other, 1, 8, [.nilFunc]⟩ := by kernel_rfl
theorem ti52 : tiOf Try.prog 52 = some ⟨.other, 1, 8, [.nilFunc]⟩ := by kernel_rfl
theorem ti53 : tiOf Try.prog 53 = some ⟨.other, 1, 8, [.nilFunc]⟩ := by kernel_rfl
theorem ti54 : tiOf Try.prog 54 = some ⟨.other, 1, 8, [.nilFunc]⟩ := by kernel_rfl
theorem ti55 : tiOf Try.prog 55 = some ⟨.other, 1, 8, [.nilFunc]⟩ := by kernel_rfl
theorem ti56 : tiOf Try.prog 56 = some ⟨.other, 1, 8, [.nilFunc]⟩ := by kernel_rfl
theorem ti57 : tiOf Try.prog 57 = some ⟨.slice 36, 1, 24, [.slice none 0 0]⟩ := by kernel_rfl
theorem ti58 : tiOf Try.prog 58 = some ⟨.struct [(0, 1), (1, 1), (2, 1), (3, 1)], 4, 32, [.int .u8 0, .int .u16 0, .int .u16 0, .slice none 0 0]⟩ := by kernel_rfl
theorem ti59 : tiOf Try.prog 59 = some ⟨.struct [(0, 1), (1, 1), (2, 1), (3, 1)], 4, 32, [.int .u8 0, .int .u16 0, .int .u16 0, .slice none 0 0]⟩ := by kernel_rfl
theorem ti60 : tiOf Try.prog 60 = some ⟨.other, 1, 8, [.nilFunc]⟩ := by kernel_rfl
theorem ti61 : tiOf Try.prog 61 = some ⟨.struct [(0, 1), (1, 1), (2, 1), (3, 1)], 4, 40, [.int .i64 0, .slice none 0 0, .int .u16 0, .int .u16 0]⟩ := by kernel_rfl
theorem ti62 : tiOf Try.prog 62 = some ⟨.struct [(0, 1), (1, 1), (2, 1), (3, 1)], 4, 40, [.int .i64 0, .slice none 0 0, .int .u16 0, .int .u16 0]⟩ := by kernel_rfl
theorem ti63 : tiOf Try.prog 63 = some ⟨.other, 1, 8, [.nilFunc]⟩ := by kernel_rfl
theorem ti64 : tiOf Try.prog 64 = some ⟨.other, 1, 8, [.nilFunc]⟩ := by kernel_rfl
theorem ti65 : tiOf Try.prog 65 = some ⟨.other, 1, 8, [.nilFunc]⟩ := by kernel_rfl
theorem ti66 : tiOf Try.prog 66 = some ⟨.other, 1, 8, [.nilFunc]⟩ := by kernel_rfl
theorem ti67 : tiOf Try.prog 67 = some ⟨.other, 1, 8, [.nilFunc]⟩ := by kernel_rfl
theorem ti68 : tiOf Try.prog 68 = some ⟨.other, 1, 8, [.nilFunc]⟩ := by kernel_rfl
theorem ti69 : tiOf Try.prog 69 = some ⟨.other, 1, 8, [.nilFunc]⟩ := by kernel_rfl
theorem ti70 : tiOf Try.prog 70 = some ⟨.other, 1, 8, [.nilFunc]⟩ := by kernel_rfl
theorem ti71 : tiOf Try.prog 71 = some ⟨.pointer 24, 1, 8, [.pointer none]⟩ := by kernel_rfl
theorem ti72 : tiOf Try.prog 72 = some ⟨.other, 1, 8, [.nilFunc]⟩ := by kernel_rfl
theorem ti73 : tiOf Try.prog 73 = some ⟨.other, 1, 8, [.nilFunc]⟩ := by kernel_rfl
theorem ti74 : tiOf Try.prog 74 = some ⟨.other, 1, 8, [.nilFunc]⟩ := by kernel_rfl
theorem ti75 : tiOf Try.prog 75 = some ⟨.other, 1, 8, [.nilFunc]⟩ := by kernel_rfl
theorem ti76 : tiOf Try.prog 76 = some ⟨.other, 1, 8, [.nilFunc]⟩ := by kernel_rfl
theorem ti77 : tiOf Try.prog 77 = some ⟨.other, 1, 8, [.nilFunc]⟩ := by kernel_rfl
theorem ti78 : tiOf Try.prog 78 = some ⟨.other, 1, 8, [.nilFunc]⟩ := by kernel_rfl
theorem ti79 : tiOf Try.prog 79 = some ⟨.other, 1, 8, [.nilFunc]⟩ := by kernel_rfl
theorem ti80 : tiOf Try.prog 80 = some ⟨.other, 1, 8, [.nilFunc]⟩ := by kernel_rfl
theorem ti81 : tiOf Try.prog 81 = some ⟨.slice 3, 1, 24, [.slice none 0 0]⟩ := by kernel_rfl
theorem ti82 : tiOf Try.prog 82 = some ⟨.other, 1, 8, [.nilFunc]⟩ := by kernel_rfl
theorem ti83 : tiOf Try.prog 83 = some ⟨.int .u64, 1, 8, [.int .u64 0]⟩ := by kernel_rfl
theorem ti84 : tiOf Try.prog 84 = some ⟨.other, 1, 8, [.nilFunc]⟩ := by kernel_rfl
theorem ti85 : tiOf Try.prog 85 = some ⟨.struct [(0, 1), (1, 1), (2, 1), (3, 1)], 4, 40, [.pointer none, .pointer none, .pointer none, .string ⟨#[]⟩]⟩ := by kernel_rfl
theorem ti86 : tiOf Try.prog 86 = some ⟨.struct [(0, 1), (1, 1), (2, 1), (3, 1)], 4, 40, [.pointer none, .pointer none, .pointer none, .string ⟨#[]⟩]⟩ := by kernel_rfl
theorem ti87 : tiOf Try.prog 87 = some ⟨.array 0 16, 0, 0, []⟩ := by kernel_rfl
theorem ti88 : tiOf Try.prog 88 = some ⟨.struct [(0, 0)], 0, 0, []⟩ := by kernel_rfl
theorem ti89 : tiOf Try.prog 89 = some ⟨.struct [(0, 0)], 0, 0, []⟩ := by kernel_rfl
theorem ti90 : tiOf Try.prog 90 = some ⟨.other, 1, 8, [.nilFunc]⟩ := by kernel_rfl
theorem ti91 : tiOf Try.prog 91 = some ⟨.int .u32, 1, 4, [.int .u32 0]⟩ := by kernel_rfl
theorem ti92 : tiOf Try.prog 92 = some ⟨.int .u8, 1, 1, [.int .u8 0]⟩ := by kernel_rfl
theorem ti93 : tiOf Try.prog 93 = some ⟨.int .u8, 1, 1, [.int .u8 0]⟩ := by kernel_rfl
theorem ti94 : tiOf Try.prog 94 = some ⟨.other, 1, 8, [.nilFunc]⟩ := by kernel_rfl
theorem ti95 : tiOf Try.prog 95 = some ⟨.pointer 5, 1, 8, [.pointer none]⟩ := by kernel_rfl
theorem ti96 : tiOf Try.prog 96 = some ⟨.int .i32, 1, 4, [.int .i32 0]⟩ := by kernel_rfl
theorem ti97 : tiOf Try.prog 97 = some ⟨.int .i32, 1, 4, [.int .i32 0]⟩ := by kernel_rfl
theorem ti98 : tiOf Try.prog 98 = some ⟨.struct [(0, 1), (1, 1), (2, 1), (3, 1), (4, 1), (5, 1), (6, 1), (7, 1), (8, 1), (9, 1), (10, 1)], 11, 48, [.int .u64 0, .int .u64 0, .int .u32 0, .int .u8 0, .int .u8 0, .int .u8 0, .int .u8 0, .nilFunc, .pointer none, .int .i32 0, .int .i32 0]⟩ := by kernel_rfl
theorem ti99 : tiOf Try.prog 99 = some ⟨.struct [(0, 1), (1, 1), (2, 1), (3, 1), (4, 1), (5, 1), (6, 1), (7, 1), (8, 1), (9, 1), (10, 1)], 11, 48, [.int .u64 0, .int .u64 0, .int .u32 0, .int .u8 0, .int .u8 0, .int .u8 0, .int .u8 0, .nilFunc, .pointer none, .int .i32 0, .int .i32 0]⟩ := by kernel_rfl
def ttL : List (Nat × TI) := [
 (1, ⟨.other, 1, 8, [.nilFunc]⟩),
 (2, ⟨.int .i64, 1, 8, [.int .i64 0]⟩),
 (3, ⟨.int .i64, 1, 8, [.int .i64 0]⟩),
 (4, ⟨.bool, 1, 1, [.bool false]⟩),
 (5, ⟨.int .u8, 1, 1, [.int .u8 0]⟩),
 (6, ⟨.int .u8, 1, 1, [.int .u8 0]⟩),
 (7, ⟨.struct [(0, 1), (1, 1), (2, 1), (3, 1)], 4, 24, [.int .i64 0, .int .i64 0, .bool false, .int .u8 0]⟩),
 (8, ⟨.struct [(0, 1), (1, 1), (2, 1), (3, 1)], 4, 24, [.int .i64 0, .int .i64 0, .bool false, .int .u8 0]⟩),
 (9, ⟨.str, 1, 16, [.string ⟨#[]⟩]⟩),
 (10, ⟨.str, 1, 16, [.string ⟨#[]⟩]⟩),
 (11, ⟨.str, 1, 16, [.string ⟨#[]⟩]⟩),
 (12, ⟨.int .u64, 1, 8, [.int .u64 0]⟩),
 (13, ⟨.struct [(0, 1), (1, 1)], 2, 24, [.string ⟨#[]⟩, .int .u64 0]⟩),
 (14, ⟨.struct [(0, 1), (1, 1)], 2, 24, [.string ⟨#[]⟩, .int .u64 0]⟩),
 (15, ⟨.pointer 86, 1, 8, [.pointer none]⟩),
 (16, ⟨.pointer 89, 1, 8, [.pointer none]⟩),
 (17, ⟨.pointer 99, 1, 8, [.pointer none]⟩),
 (18, ⟨.struct [(0, 1)], 1, 8, [.pointer none]⟩),
 (19, ⟨.struct [(0, 1)], 1, 8, [.pointer none]⟩),
 (21, ⟨.int .i32, 1, 4, [.int .i32 0]⟩),
 (22, ⟨.slice 38, 1, 24, [.slice none 0 0]⟩),
 (23, ⟨.other, 1, 8, [.nilFunc]⟩),
 (24, ⟨.slice 40, 1, 24, [.slice none 0 0]⟩),
 (25, ⟨.array 256 24, 256, 6144, zBig25⟩),
 (26, ⟨.array 4 25, 1024, 24576, zBig26⟩),
 (27, ⟨.struct [(0, 1), (1, 1024)], 1025, 24584, zBig27⟩),
 (28, ⟨.struct [(0, 1), (1, 1024)], 1025, 24584, zBig28⟩),
 (29, ⟨.int .i64, 1, 8, [.int .i64 0]⟩),
 (31, ⟨.other, 1, 8, [.nilFunc]⟩),
 (32, ⟨.struct [(0, 1), (1, 1)], 2, 32, [.int .i64 0, .slice none 0 0]⟩),
 (33, ⟨.struct [(0, 1), (1, 1)], 2, 32, [.int .i64 0, .slice none 0 0]⟩),
 (35, ⟨.other, 1, 8, [.nilFunc]⟩),
 (36, ⟨.int .u16, 1, 2, [.int .u16 0]⟩),
 (37, ⟨.struct [(0, 1), (1, 1), (2, 1), (3, 1)], 4, 32, [.int .u8 0, .int .i64 0, .int .i64 0, .int .u16 0]⟩),
 (38, ⟨.struct [(0, 1), (1, 1), (2, 1), (3, 1)], 4, 32, [.int .u8 0, .int .i64 0, .int .i64 0, .int .u16 0]⟩),
 (39, ⟨.struct [(0, 1), (1, 1), (2, 1), (3, 1), (4, 1), (5, 1)], 6, 48, [.int .i64 0, .int .i64 0, .int .i64 0, .int .i64 0, .int .i64 0, .int .i64 0]⟩),
 (40, ⟨.struct [(0, 1), (1, 1), (2, 1), (3, 1), (4, 1), (5, 1)], 6, 48, [.int .i64 0, .int .i64 0, .int .i64 0, .int .i64 0, .int .i64 0, .int .i64 0]⟩),
 (41, ⟨.other, 1, 8, [.nilFunc]⟩),
 (42, ⟨.other, 1, 8, [.nilFunc]⟩),
 (44, ⟨.other, 1, 8, [.nilFunc]⟩),
 (46, ⟨.other, 1, 8, [.nilFunc]⟩),
 (48, ⟨.other, 1, 8, [.nilFunc]⟩),
 (50, ⟨.other, 1, 8, [.nilFunc]⟩),
 (51, ⟨.other, 1, 8, [.nilFunc]⟩),
 (52, ⟨.other, 1, 8, [.nilFunc]⟩),
 (53, ⟨.other, 1, 8, [.nilFunc]⟩),
 (54, ⟨.other, 1, 8, [.nilFunc]⟩),
 (55, ⟨.other, 1, 8, [.nilFunc]⟩),
 (56, ⟨.other, 1, 8, [.nilFunc]⟩),
 (57, ⟨.slice 36, 1, 24, [.slice none 0 0]⟩),
 (58, ⟨.struct [(0, 1), (1, 1), (2, 1), (3, 1)], 4, 32, [.int .u8 0, .int .u16 0, .int .u16 0, .slice none 0 0]⟩),
 (59, ⟨.struct [(0, 1), (1, 1), (2, 1), (3, 1)], 4, 32, [.int .u8 0, .int .u16 0, .int .u16 0, .slice none 0 0]⟩),
 (60, ⟨.other, 1, 8, [.nilFunc]⟩),
 (61, ⟨.struct [(0, 1), (1, 1), (2, 1), (3, 1)], 4, 40, [.int .i64 0, .slice none 0 0, .int .u16 0, .int .u16 0]⟩),
 (62, ⟨.struct [(0, 1), (1, 1), (2, 1), (3, 1)], 4, 40, [.int .i64 0, .slice none 0 0, .int .u16 0, .int .u16 0]⟩),
 (63, ⟨.other, 1, 8, [.nilFunc]⟩),
 (64, ⟨.other, 1, 8, [.nilFunc]⟩),
 (65, ⟨.other, 1, 8, [.nilFunc]⟩),
 (66, ⟨.other, 1, 8, [.nilFunc]⟩),
 (67, ⟨.other, 1, 8, [.nilFunc]⟩),
 (68, ⟨.other, 1, 8, [.nilFunc]⟩),
 (69, ⟨.other, 1, 8, [.nilFunc]⟩),
 (70, ⟨.other, 1, 8, [.nilFunc]⟩),
 (71, ⟨.pointer 24, 1, 8, [.pointer none]⟩),
 (72, ⟨.other, 1, 8, [.nilFunc]⟩),
 (73, ⟨.other, 1, 8, [.nilFunc]⟩),
 (74, ⟨.other, 1, 8, [.nilFunc]⟩),
 (75, ⟨.other, 1, 8, [.nilFunc]⟩),
 (76, ⟨.other, 1, 8, [.nilFunc]⟩),
 (77, ⟨.other, 1, 8, [.nilFunc]⟩),
 (78, ⟨.other, 1, 8, [.nilFunc]⟩),
 (79, ⟨.other, 1, 8, [.nilFunc]⟩),
 (80, ⟨.other, 1, 8, [.nilFunc]⟩),
 (81, ⟨.slice 3, 1, 24, [.slice none 0 0]⟩),
 (82, ⟨.other, 1, 8, [.nilFunc]⟩),
 (83, ⟨.int .u64, 1, 8, [.int .u64 0]⟩),
 (84, ⟨.other, 1, 8, [.nilFunc]⟩),
 (85, ⟨.struct [(0, 1), (1, 1), (2, 1), (3, 1)], 4, 40, [.pointer none, .pointer none, .pointer none, .string ⟨#[]⟩]⟩),
 (86, ⟨.struct [(0, 1), (1, 1), (2, 1), (3, 1)], 4, 40, [.pointer none, .pointer none, .pointer none, .string ⟨#[]⟩]⟩),
 (87, ⟨.array 0 16, 0, 0, []⟩),
 (88, ⟨.struct [(0, 0)], 0, 0, []⟩),
 (89, ⟨.struct [(0, 0)], 0, 0, []⟩),
 (90, ⟨.other, 1, 8, [.nilFunc]⟩),
 (91, ⟨.int .u32, 1, 4, [.int .u32 0]⟩),
 (92, ⟨.int .u8, 1, 1, [.int .u8 0]⟩),
 (93, ⟨.int .u8, 1, 1, [.int .u8 0]⟩),
 (94, ⟨.other, 1, 8, [.nilFunc]⟩),
 (95, ⟨.pointer 5, 1, 8, [.pointer none]⟩),
 (96, ⟨.int .i32, 1, 4, [.int .i32 0]⟩),
 (97, ⟨.int .i32, 1, 4, [.int .i32 0]⟩),
 (98, ⟨.struct [(0, 1), (1, 1), (2, 1), (3, 1), (4, 1), (5, 1), (6, 1), (7, 1), (8, 1), (9, 1), (10, 1)], 11, 48, [.int .u64 0, .int .u64 0, .int .u32 0, .int .u8 0, .int .u8 0, .int .u8 0, .int .u8 0, .nilFunc, .pointer none, .int .i32 0, .int .i32 0]⟩),
 (99, ⟨.struct [(0, 1), (1, 1), (2, 1), (3, 1), (4, 1), (5, 1), (6, 1), (7, 1), (8, 1), (9, 1), (10, 1)], 11, 48, [.int .u64 0, .int .u64 0, .int .u32 0, .int .u8 0, .int .u8 0, .int .u8 0, .int .u8 0, .nilFunc, .pointer none, .int .i32 0, .int .i32 0]⟩)]
def tt : Nat → Option TI := lkT ttL
theorem tok : ∀ t ti, tt t = some ti → tiOf Try.prog t = some ti := lkT_ok Try.prog ttL ⟨ti1, ti2, ti3, ti4, ti5, ti6, ti7, ti8, ti9, ti10, ti11, ti12, ti13, ti14, ti15, ti16, ti17, ti18, ti19, ti21, ti22, ti23, ti24, ti25, ti26, ti27, ti28, ti29, ti31, ti32, ti33, ti35, ti36, ti37, ti38, ti39, ti40, ti41, ti42, ti44, ti46, ti48, ti50, ti51, ti52, ti53, ti54, ti55, ti56, ti57, ti58, ti59, ti60, ti61, ti62, ti63, ti64, ti65, ti66, ti67, ti68, ti69, ti70, ti71, ti72, ti73, ti74, ti75, ti76, ti77, ti78, ti79, ti80, ti81, ti82, ti83, ti84, ti85, ti86, ti87, ti88, ti89, ti90, ti91, ti92, ti93, ti94, ti95, ti96, ti97, ti98, ti99, trivial⟩
theorem hmix : Try.prog.follows .mixedOrders = true := by kernel_rfl
theorem goF {f : FuncId} {fn : Func} {code : Code} {args : List AV} {res : AV} (hf : Try.prog.funcs[f]? = some fn) (hcl : ∀ x, x ∈ args → Closed x) (h : ∀ (w0 : World) (st0 : Nat → Prop), awp ⟨Try.prog, tt, tok, fn.ntmps, w0, st0, fun _ => False, (none, false), RC.bare st0⟩ code ⟨frOf 0 args, [], 0⟩ (retA ⟨Try.prog, tt, tok, fn.ntmps, w0, st0, fun _ => False, (none, false), RC.bare st0⟩ fn.results res)) (hb : fn.body = some code := by exact rfl) (hn : (fn.name == "runtime.NumGoroutine") = false := by kernel_rfl) (hlen : Nat.ble args.length fn.ntmps = true := by kernel_rfl) : FnC Try.prog f args res := FnC.of_awp (T := tt) (ok := tok) hf hn hb hlen hcl h
theorem goA {p q : Prop} (n : q) (h : q → p := by first | exact awp_seq | exact awp_block | exact awp_rg hmix | exact fun h => ARun.o rfl h) : p := h n
theorem goN {p q : Prop} (n : q) (h : q → p := by first | exact awp_seq | exact awp_block) : p := h n
theorem goB {p q : Prop} (n : q) (h : q → p := by first | (first | refine fun h => ARun.f ?_ | refine fun h => awp_skip ?_ | refine fun h => awp_exit ?_); dsimp only [thenA, blockA, AS.bump, List.length_cons, List.length_nil, reduceIte, Nat.reduceEqDiff]; exact h | exact fun h => awp_cT rfl h | exact fun h => awp_cF rfl h | ((fail_if_success refine fun h => ARun.plain rfl ?_); first | exact fun h => ARun.kT rfl rfl rfl h | exact fun h => ARun.kF rfl rfl rfl h)) : p := h n
end Go.Proofs.Ytfaclpcdeflgfaa
