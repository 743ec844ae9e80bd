/- kT. -/
import Derived.Test.YthlbcakjngcjbaaGreatW1
import Derived.Test.YthlbcakjngcjbaaGreatW2
import Derived.Test.YthlbcakjngcjbaaGreatW3
import Derived.Test.YthlbcakjngcjbaaGreatW4
import Derived.Test.YthlbcakjngcjbaaGreatProg
import Derived.KernelRfl
set_option linter.unusedVariables false
set_option linter.unusedSimpArgs false
namespace Go.Proofs.YthlbcakjngcjbaaGreat
open Go
theorem ti2 : tiOf Tryz.prog 2 = some ⟨.int .i64, 1, 8, [.int .i64 0]⟩ := by kernel_rfl
theorem ti3 : tiOf Tryz.prog 3 = some ⟨.int .i64, 1, 8, [.int .i64 0]⟩ := by kernel_rfl
theorem ti4 : tiOf Tryz.prog 4 = some ⟨.bool, 1, 1, [.bool false]⟩ := by kernel_rfl
theorem ti5 : tiOf Tryz.prog 5 = some ⟨.int .u8, 1, 1, [.int .u8 0]⟩ := by kernel_rfl
theorem ti6 : tiOf Tryz.prog 6 = some ⟨.int .u8, 1, 1, [.int .u8 0]⟩ := by kernel_rfl
theorem ti8 : tiOf Tryz.prog 8 = some ⟨.struct [(0, 1), (1, 1), (2, 1), (3, 1)], 4, 24, [.int .i64 0, .int .i64 0, .bool false, .int .u8 0]⟩ := by kernel_rfl
theorem ti9 : tiOf Tryz.prog 9 = some ⟨.str, 1, 16, [.string ⟨#[]⟩]⟩ := by kernel_rfl
theorem ti12 : tiOf Tryz.prog 12 = some ⟨.int .u64, 1, 8, [.int .u64 0]⟩ := by kernel_rfl
theorem ti13 : tiOf Tryz.prog 13 = some ⟨.struct [(0, 1), (1, 1)], 2, 24, [.string ⟨#[]⟩, .int .u64 0]⟩ := by kernel_rfl
theorem ti23 : tiOf Tryz.prog 23 = some ⟨.struct [(0, 1), (1, 1), (2, 1), (3, 1), (4, 1)], 5, 40, [.int .i64 0, .int .i64 0, .int .i64 0, .int .i64 0, .int .i64 0]⟩ := by kernel_rfl
theorem ti24 : tiOf Tryz.prog 24 = some ⟨.slice 5, 1, 24, [.slice none 0 0]⟩ := by kernel_rfl
theorem ti25 : tiOf Tryz.prog 25 = some ⟨.slice 167, 1, 24, [.slice none 0 0]⟩ := by kernel_rfl
theorem ti27 : tiOf Tryz.prog 27 = some ⟨.struct [(0, 1), (1, 1)], 2, 48, [.slice none 0 0, .slice none 0 0]⟩ := by kernel_rfl
theorem ti28 : tiOf Tryz.prog 28 = some ⟨.slice 3, 1, 24, [.slice none 0 0]⟩ := by kernel_rfl
theorem ti29 : tiOf Tryz.prog 29 = some ⟨.slice 131, 1, 24, [.slice none 0 0]⟩ := by kernel_rfl
theorem ti30 : tiOf Tryz.prog 30 = some ⟨.slice 68, 1, 24, [.slice none 0 0]⟩ := by kernel_rfl
theorem ti32 : tiOf Tryz.prog 32 = some ⟨.struct [(0, 1), (1, 1)], 2, 32, [.slice none 0 0, .bool false]⟩ := by kernel_rfl
theorem ti33 : tiOf Tryz.prog 33 = some ⟨.slice 138, 1, 24, [.slice none 0 0]⟩ := by kernel_rfl
theorem ti34 : tiOf Tryz.prog 34 = some ⟨.slice 101, 1, 24, [.slice none 0 0]⟩ := by kernel_rfl
theorem ti35 : tiOf Tryz.prog 35 = some ⟨.struct [(0, 5), (5, 2), (7, 1), (8, 1), (9, 1), (10, 1), (11, 1), (12, 1), (13, 1), (14, 2), (16, 1), (17, 1), (18, 1), (19, 1), (20, 1), (21, 1), (22, 1)], 23, 344, [.int .i64 0, .int .i64 0, .int .i64 0, .int .i64 0, .int .i64 0, .slice none 0 0, .slice none 0 0, .int .i64 0, .slice none 0 0, .slice none 0 0, .slice none 0 0, .slice none 0 0, .int .i64 0, .slice none 0 0, .slice none 0 0, .bool false, .slice none 0 0, .int .i64 0, .int .i64 0, .int .i64 0, .int .i64 0, .int .i64 0, .slice none 0 0]⟩ := by kernel_rfl
theorem ti36 : tiOf Tryz.prog 36 = some ⟨.struct [(0, 5), (5, 2), (7, 1), (8, 1), (9, 1), (10, 1), (11, 1), (12, 1), (13, 1), (14, 2), (16, 1), (17, 1), (18, 1), (19, 1), (20, 1), (21, 1), (22, 1)], 23, 344, [.int .i64 0, .int .i64 0, .int .i64 0, .int .i64 0, .int .i64 0, .slice none 0 0, .slice none 0 0, .int .i64 0, .slice none 0 0, .slice none 0 0, .slice none 0 0, .slice none 0 0, .int .i64 0, .slice none 0 0, .slice none 0 0, .bool false, .slice none 0 0, .int .i64 0, .int .i64 0, .int .i64 0, .int .i64 0, .int .i64 0, .slice none 0 0]⟩ := by kernel_rfl
theorem ti37 : tiOf Tryz.prog 37 = some ⟨.slice 123, 1, 24, [.slice none 0 0]⟩ := by kernel_rfl
theorem ti39 : tiOf Tryz.prog 39 = some ⟨.struct [(0, 1), (1, 1), (2, 1), (3, 1), (4, 1), (5, 1), (6, 1)], 7, 72, [.int .i64 0, .slice none 0 0, .int .i64 0, .int .i64 0, .int .i64 0, .bool false, .int .i64 0]⟩ := by kernel_rfl
theorem ti40 : tiOf Tryz.prog 40 = some ⟨.struct [(0, 23), (23, 7)], 30, 416, [.int .i64 0, .int .i64 0, .int .i64 0, .int .i64 0, .int .i64 0, .slice none 0 0, .slice none 0 0, .int .i64 0, .slice none 0 0, .slice none 0 0, .slice none 0 0, .slice none 0 0, .int .i64 0, .slice none 0 0, .slice none 0 0, .bool false, .slice none 0 0, .int .i64 0, .int .i64 0, .int .i64 0, .int .i64 0, .int .i64 0, .slice none 0 0, .int .i64 0, .slice none 0 0, .int .i64 0, .int .i64 0, .int .i64 0, .bool false, .int .i64 0]⟩ := by kernel_rfl
theorem ti41 : tiOf Tryz.prog 41 = some ⟨.struct [(0, 23), (23, 7)], 30, 416, [.int .i64 0, .int .i64 0, .int .i64 0, .int .i64 0, .int .i64 0, .slice none 0 0, .slice none 0 0, .int .i64 0, .slice none 0 0, .slice none 0 0, .slice none 0 0, .slice none 0 0, .int .i64 0, .slice none 0 0, .slice none 0 0, .bool false, .slice none 0 0, .int .i64 0, .int .i64 0, .int .i64 0, .int .i64 0, .int .i64 0, .slice none 0 0, .int .i64 0, .slice none 0 0, .int .i64 0, .int .i64 0, .int .i64 0, .bool false, .int .i64 0]⟩ := by kernel_rfl
theorem ti42 : tiOf Tryz.prog 42 = some ⟨.other, 1, 8, [.nilFunc]⟩ := by kernel_rfl
theorem ti43 : tiOf Tryz.prog 43 = some ⟨.other, 1, 8, [.nilFunc]⟩ := by kernel_rfl
theorem ti44 : tiOf Tryz.prog 44 = some ⟨.other, 1, 8, [.nilFunc]⟩ := by kernel_rfl
theorem ti45 : tiOf Tryz.prog 45 = some ⟨.struct [(0, 30), (30, 1), (31, 1), (32, 1)], 33, 448, [.int .i64 0, .int .i64 0, .int .i64 0, .int .i64 0, .int .i64 0, .slice none 0 0, .slice none 0 0, .int .i64 0, .slice none 0 0, .slice none 0 0, .slice none 0 0, .slice none 0 0, .int .i64 0, .slice none 0 0, .slice none 0 0, .bool false, .slice none 0 0, .int .i64 0, .int .i64 0, .int .i64 0, .int .i64 0, .int .i64 0, .slice none 0 0, .int .i64 0, .slice none 0 0, .int .i64 0, .int .i64 0, .int .i64 0, .bool false, .int .i64 0, .string ⟨#[]⟩, .bool false, .int .i64 0]⟩ := by kernel_rfl
theorem ti46 : tiOf Tryz.prog 46 = some ⟨.struct [(0, 30), (30, 1), (31, 1), (32, 1)], 33, 448, [.int .i64 0, .int .i64 0, .int .i64 0, .int .i64 0, .int .i64 0, .slice none 0 0, .slice none 0 0, .int .i64 0, .slice none 0 0, .slice none 0 0, .slice none 0 0, .slice none 0 0, .int .i64 0, .slice none 0 0, .slice none 0 0, .bool false, .slice none 0 0, .int .i64 0, .int .i64 0, .int .i64 0, .int .i64 0, .int .i64 0, .slice none 0 0, .int .i64 0, .slice none 0 0, .int .i64 0, .int .i64 0, .int .i64 0, .bool false, .int .i64 0, .string ⟨#[]⟩, .bool false, .int .i64 0]⟩ := by kernel_rfl
theorem ti47 : tiOf Tryz.prog 47 = some ⟨.int .i64, 1, 8, [.int .i64 0]⟩ := by kernel_rfl
theorem ti49 : tiOf Tryz.prog 49 = some ⟨.other, 1, 8, [.nilFunc]⟩ := by kernel_rfl
theorem ti58 : tiOf Tryz.prog 58 = some ⟨.other, 1, 8, [.nilFunc]⟩ := by kernel_rfl
theorem ti59 : tiOf Tryz.prog 59 = some ⟨.other, 1, 8, [.nilFunc]⟩ := by kernel_rfl
theorem ti60 : tiOf Tryz.prog 60 = some ⟨.other, 1, 8, [.nilFunc]⟩ := by kernel_rfl
theorem ti61 : tiOf Tryz.prog 61 = some ⟨.struct [(0, 30), (30, 1), (31, 1), (32, 1), (33, 1)], 34, 448, [.int .i64 0, .int .i64 0, .int .i64 0, .int .i64 0, .int .i64 0, .slice none 0 0, .slice none 0 0, .int .i64 0, .slice none 0 0, .slice none 0 0, .slice none 0 0, .slice none 0 0, .int .i64 0, .slice none 0 0, .slice none 0 0, .bool false, .slice none 0 0, .int .i64 0, .int .i64 0, .int .i64 0, .int .i64 0, .int .i64 0, .slice none 0 0, .int .i64 0, .slice none 0 0, .int .i64 0, .int .i64 0, .int .i64 0, .bool false, .int .i64 0, .string ⟨#[]⟩, .int .i64 0, .bool false, .int .u8 0]⟩ := by kernel_rfl
theorem ti62 : tiOf Tryz.prog 62 = some ⟨.struct [(0, 30), (30, 1), (31, 1), (32, 1), (33, 1)], 34, 448, [.int .i64 0, .int .i64 0, .int .i64 0, .int .i64 0, .int .i64 0, .slice none 0 0, .slice none 0 0, .int .i64 0, .slice none 0 0, .slice none 0 0, .slice none 0 0, .slice none 0 0, .int .i64 0, .slice none 0 0, .slice none 0 0, .bool false, .slice none 0 0, .int .i64 0, .int .i64 0, .int .i64 0, .int .i64 0, .int .i64 0, .slice none 0 0, .int .i64 0, .slice none 0 0, .int .i64 0, .int .i64 0, .int .i64 0, .bool false, .int .i64 0, .string ⟨#[]⟩, .int .i64 0, .bool false, .int .u8 0]⟩ := by kernel_rfl
theorem ti63 : tiOf Tryz.prog 63 = some ⟨.other, 1, 8, [.nilFunc]⟩ := by kernel_rfl
theorem ti64 : tiOf Tryz.prog 64 = some ⟨.other, 1, 8, [.nilFunc]⟩ := by kernel_rfl
theorem ti66 : tiOf Tryz.prog 66 = some ⟨.other, 1, 8, [.nilFunc]⟩ := by kernel_rfl
theorem ti67 : tiOf Tryz.prog 67 = some ⟨.struct [(0, 1), (1, 1), (2, 1)], 3, 32, [.string ⟨#[]⟩, .int .i64 0, .int .i64 0]⟩ := by kernel_rfl
theorem ti68 : tiOf Tryz.prog 68 = some ⟨.struct [(0, 1), (1, 1), (2, 1)], 3, 32, [.string ⟨#[]⟩, .int .i64 0, .int .i64 0]⟩ := by kernel_rfl
theorem ti70 : tiOf Tryz.prog 70 = some ⟨.other, 1, 8, [.nilFunc]⟩ := by kernel_rfl
theorem ti71 : tiOf Tryz.prog 71 = some ⟨.other, 1, 8, [.nilFunc]⟩ := by kernel_rfl
theorem ti72 : tiOf Tryz.prog 72 = some ⟨.other, 1, 8, [.nilFunc]⟩ := by kernel_rfl
theorem ti73 : tiOf Tryz.prog 73 = some ⟨.other, 1, 8, [.nilFunc]⟩ := by kernel_rfl
theorem ti74 : tiOf Tryz.prog 74 = some ⟨.other, 1, 8, [.nilFunc]⟩ := by kernel_rfl
theorem ti75 : tiOf Tryz.prog 75 = some ⟨.slice 28, 1, 24, [.slice none 0 0]⟩ := by kernel_rfl
theorem ti77 : tiOf Tryz.prog 77 = some ⟨.other, 1, 8, [.nilFunc]⟩ := by kernel_rfl
theorem ti78 : tiOf Tryz.prog 78 = some ⟨.other, 1, 8, [.nilFunc]⟩ := by kernel_rfl
theorem ti79 : tiOf Tryz.prog 79 = some ⟨.other, 1, 8, [.nilFunc]⟩ := by kernel_rfl
theorem ti80 : tiOf Tryz.prog 80 = some ⟨.other, 1, 8, [.nilFunc]⟩ := by kernel_rfl
theorem ti81 : tiOf Tryz.prog 81 = some ⟨.other, 1, 8, [.nilFunc]⟩ := by kernel_rfl
theorem ti82 : tiOf Tryz.prog 82 = some ⟨.other, 1, 8, [.nilFunc]⟩ := by kernel_rfl
theorem ti83 : tiOf Tryz.prog 83 = some ⟨.other, 1, 8, [.nilFunc]⟩ := by kernel_rfl
theorem ti84 : tiOf Tryz.prog 84 = some ⟨.other, 1, 8, [.nilFunc]⟩ := by kernel_rfl
theorem ti85 : tiOf Tryz.prog 85 = some ⟨.pointer 91, 1, 8, [.pointer none]⟩ := by kernel_rfl
theorem ti86 : tiOf Tryz.prog 86 = some ⟨.other, 1, 8, [.nilFunc]⟩ := by kernel_rfl
theorem ti87 : tiOf Tryz.prog 87 = some ⟨.other, 1, 8, [.nilFunc]⟩ := by kernel_rfl
theorem ti88 : tiOf Tryz.prog 88 = some ⟨.struct [(0, 1)], 1, 8, [.int .i64 0]⟩ := by kernel_rfl
theorem ti89 : tiOf Tryz.prog 89 = some ⟨.struct [(0, 1)], 1, 8, [.int .i64 0]⟩ := by kernel_rfl
theorem ti91 : tiOf Tryz.prog 91 = some ⟨.struct [(0, 30), (30, 1)], 31, 424, [.int .i64 0, .int .i64 0, .int .i64 0, .int .i64 0, .int .i64 0, .slice none 0 0, .slice none 0 0, .int .i64 0, .slice none 0 0, .slice none 0 0, .slice none 0 0, .slice none 0 0, .int .i64 0, .slice none 0 0, .slice none 0 0, .bool false, .slice none 0 0, .int .i64 0, .int .i64 0, .int .i64 0, .int .i64 0, .int .i64 0, .slice none 0 0, .int .i64 0, .slice none 0 0, .int .i64 0, .int .i64 0, .int .i64 0, .bool false, .int .i64 0, .int .i64 0]⟩ := by kernel_rfl
theorem ti92 : tiOf Tryz.prog 92 = some ⟨.other, 1, 8, [.nilFunc]⟩ := by kernel_rfl
theorem ti93 : tiOf Tryz.prog 93 = some ⟨.other, 1, 8, [.nilFunc]⟩ := by kernel_rfl
theorem ti98 : tiOf Tryz.prog 98 = some ⟨.other, 1, 8, [.nilFunc]⟩ := by kernel_rfl
theorem ti99 : tiOf Tryz.prog 99 = some ⟨.other, 1, 8, [.nilFunc]⟩ := by kernel_rfl
theorem ti100 : tiOf Tryz.prog 100 = some ⟨.struct [(0, 1), (1, 1), (2, 1), (3, 1)], 4, 32, [.int .i64 0, .int .i64 0, .int .i64 0, .bool false]⟩ := by kernel_rfl
theorem ti101 : tiOf Tryz.prog 101 = some ⟨.struct [(0, 1), (1, 1), (2, 1), (3, 1)], 4, 32, [.int .i64 0, .int .i64 0, .int .i64 0, .bool false]⟩ := by kernel_rfl
theorem ti103 : tiOf Tryz.prog 103 = some ⟨.other, 1, 8, [.nilFunc]⟩ := by kernel_rfl
theorem ti104 : tiOf Tryz.prog 104 = some ⟨.other, 1, 8, [.nilFunc]⟩ := by kernel_rfl
theorem ti105 : tiOf Tryz.prog 105 = some ⟨.other, 1, 8, [.nilFunc]⟩ := by kernel_rfl
theorem ti108 : tiOf Tryz.prog 108 = some ⟨.other, 1, 8, [.nilFunc]⟩ := by kernel_rfl
theorem ti110 : tiOf Tryz.prog 110 = some ⟨.other, 1, 8, [.nilFunc]⟩ := by kernel_rfl
theorem ti111 : tiOf Tryz.prog 111 = some ⟨.other, 1, 8, [.nilFunc]⟩ := by kernel_rfl
theorem ti112 : tiOf Tryz.prog 112 = some ⟨.slice 9, 1, 24, [.slice none 0 0]⟩ := by kernel_rfl
theorem ti113 : tiOf Tryz.prog 113 = some ⟨.other, 1, 8, [.nilFunc]⟩ := by kernel_rfl
theorem ti114 : tiOf Tryz.prog 114 = some ⟨.other, 1, 8, [.nilFunc]⟩ := by kernel_rfl
theorem ti115 : tiOf Tryz.prog 115 = some ⟨.struct [(0, 23), (23, 1), (24, 1), (25, 1), (26, 1)], 27, 376, [.int .i64 0, .int .i64 0, .int .i64 0, .int .i64 0, .int .i64 0, .slice none 0 0, .slice none 0 0, .int .i64 0, .slice none 0 0, .slice none 0 0, .slice none 0 0, .slice none 0 0, .int .i64 0, .slice none 0 0, .slice none 0 0, .bool false, .slice none 0 0, .int .i64 0, .int .i64 0, .int .i64 0, .int .i64 0, .int .i64 0, .slice none 0 0, .int .i64 0, .int .i64 0, .bool false, .int .i64 0]⟩ := by kernel_rfl
theorem ti116 : tiOf Tryz.prog 116 = some ⟨.struct [(0, 23), (23, 1), (24, 1), (25, 1), (26, 1)], 27, 376, [.int .i64 0, .int .i64 0, .int .i64 0, .int .i64 0, .int .i64 0, .slice none 0 0, .slice none 0 0, .int .i64 0, .slice none 0 0, .slice none 0 0, .slice none 0 0, .slice none 0 0, .int .i64 0, .slice none 0 0, .slice none 0 0, .bool false, .slice none 0 0, .int .i64 0, .int .i64 0, .int .i64 0, .int .i64 0, .int .i64 0, .slice none 0 0, .int .i64 0, .int .i64 0, .bool false, .int .i64 0]⟩ := by kernel_rfl
theorem ti117 : tiOf Tryz.prog 117 = some ⟨.other, 1, 8, [.nilFunc]⟩ := by kernel_rfl
theorem ti120 : tiOf Tryz.prog 120 = some ⟨.other, 1, 8, [.nilFunc]⟩ := by kernel_rfl
theorem ti121 : tiOf Tryz.prog 121 = some ⟨.other, 1, 8, [.nilFunc]⟩ := by kernel_rfl
theorem ti123 : tiOf Tryz.prog 123 = some ⟨.struct [(0, 1), (1, 1), (2, 1)], 3, 40, [.int .i64 0, .int .i64 0, .slice none 0 0]⟩ := by kernel_rfl
theorem ti131 : tiOf Tryz.prog 131 = some ⟨.struct [(0, 1), (1, 1), (2, 1)], 3, 24, [.int .i64 0, .int .i64 0, .int .i64 0]⟩ := by kernel_rfl
theorem ti138 : tiOf Tryz.prog 138 = some ⟨.struct [(0, 1), (1, 1), (2, 1), (3, 1), (4, 1), (5, 1)], 6, 48, [.int .i64 0, .int .i64 0, .int .i64 0, .int .i64 0, .int .i64 0, .int .i64 0]⟩ := by kernel_rfl
theorem ti140 : tiOf Tryz.prog 140 = some ⟨.other, 1, 8, [.nilFunc]⟩ := by kernel_rfl
theorem ti142 : tiOf Tryz.prog 142 = some ⟨.pointer 89, 1, 8, [.pointer none]⟩ := by kernel_rfl
theorem ti162 : tiOf Tryz.prog 162 = some ⟨.struct [(0, 23), (23, 1), (24, 1), (25, 1), (26, 1), (27, 1)], 28, 376, [.int .i64 0, .int .i64 0, .int .i64 0, .int .i64 0, .int .i64 0, .slice none 0 0, .slice none 0 0, .int .i64 0, .slice none 0 0, .slice none 0 0, .slice none 0 0, .slice none 0 0, .int .i64 0, .slice none 0 0, .slice none 0 0, .bool false, .slice none 0 0, .int .i64 0, .int .i64 0, .int .i64 0, .int .i64 0, .int .i64 0, .slice none 0 0, .int .i64 0, .int .i64 0, .bool false, .bool false, .int .i64 0]⟩ := by kernel_rfl
theorem ti167 : tiOf Tryz.prog 167 = some ⟨.struct [(0, 1), (1, 1)], 2, 32, [.int .i64 0, .slice none 0 0]⟩ := by kernel_rfl
theorem ti170 : tiOf Tryz.prog 170 = some ⟨.other, 1, 8, [.nilFunc]⟩ := by kernel_rfl
theorem ti180 : tiOf Tryz.prog 180 = some ⟨.other, 1, 8, [.nilFunc]⟩ := by kernel_rfl
theorem ti181 : tiOf Tryz.prog 181 = some ⟨.other, 1, 8, [.nilFunc]⟩ := by kernel_rfl
theorem ti183 : tiOf Tryz.prog 183 = some ⟨.pointer 162, 1, 8, [.pointer none]⟩ := by kernel_rfl
theorem ti192 : tiOf Tryz.prog 192 = some ⟨.struct [(0, 2), (2, 1)], 3, 56, [.slice none 0 0, .slice none 0 0, .int .i64 0]⟩ := by kernel_rfl
theorem ti196 : tiOf Tryz.prog 196 = some ⟨.array 8 5, 8, 8, [.int .u8 0, .int .u8 0, .int .u8 0, .int .u8 0, .int .u8 0, .int .u8 0, .int .u8 0, .int .u8 0]⟩ := by kernel_rfl
theorem ti197 : tiOf Tryz.prog 197 = some ⟨.int .u64, 1, 8, [.int .u64 0]⟩ := by kernel_rfl
theorem ti200 : tiOf Tryz.prog 200 = some ⟨.other, 1, 8, [.nilFunc]⟩ := by kernel_rfl
theorem ti201 : tiOf Tryz.prog 201 = some ⟨.pointer 5, 1, 8, [.pointer none]⟩ := by kernel_rfl
theorem ti202 : tiOf Tryz.prog 202 = some ⟨.other, 1, 8, [.nilFunc]⟩ := by kernel_rfl
def ttL : List (Nat × TI) := [
 (2, ⟨.int .i64, 1, 8, [.int .i64 0]⟩),
 (3, ⟨.int .i64, 1, 8, [.int .i64 0]⟩),
 (4, ⟨.bool, 1, 1, [.bool false]⟩),
 (5, ⟨.int .u8, 1, 1, [.int .u8 0]⟩),
 (6, ⟨.int .u8, 1, 1, [.int .u8 0]⟩),
 (8, ⟨.struct [(0, 1), (1, 1), (2, 1), (3, 1)], 4, 24, [.int .i64 0, .int .i64 0, .bool false, .int .u8 0]⟩),
 (9, ⟨.str, 1, 16, [.string ⟨#[]⟩]⟩),
 (12, ⟨.int .u64, 1, 8, [.int .u64 0]⟩),
 (13, ⟨.struct [(0, 1), (1, 1)], 2, 24, [.string ⟨#[]⟩, .int .u64 0]⟩),
 (23, ⟨.struct [(0, 1), (1, 1), (2, 1), (3, 1), (4, 1)], 5, 40, [.int .i64 0, .int .i64 0, .int .i64 0, .int .i64 0, .int .i64 0]⟩),
 (24, ⟨.slice 5, 1, 24, [.slice none 0 0]⟩),
 (25, ⟨.slice 167, 1, 24, [.slice none 0 0]⟩),
 (27, ⟨.struct [(0, 1), (1, 1)], 2, 48, [.slice none 0 0, .slice none 0 0]⟩),
 (28, ⟨.slice 3, 1, 24, [.slice none 0 0]⟩),
 (29, ⟨.slice 131, 1, 24, [.slice none 0 0]⟩),
 (30, ⟨.slice 68, 1, 24, [.slice none 0 0]⟩),
 (32, ⟨.struct [(0, 1), (1, 1)], 2, 32, [.slice none 0 0, .bool false]⟩),
 (33, ⟨.slice 138, 1, 24, [.slice none 0 0]⟩),
 (34, ⟨.slice 101, 1, 24, [.slice none 0 0]⟩),
 (35, ⟨.struct [(0, 5), (5, 2), (7, 1), (8, 1), (9, 1), (10, 1), (11, 1), (12, 1), (13, 1), (14, 2), (16, 1), (17, 1), (18, 1), (19, 1), (20, 1), (21, 1), (22, 1)], 23, 344, [.int .i64 0, .int .i64 0, .int .i64 0, .int .i64 0, .int .i64 0, .slice none 0 0, .slice none 0 0, .int .i64 0, .slice none 0 0, .slice none 0 0, .slice none 0 0, .slice none 0 0, .int .i64 0, .slice none 0 0, .slice none 0 0, .bool false, .slice none 0 0, .int .i64 0, .int .i64 0, .int .i64 0, .int .i64 0, .int .i64 0, .slice none 0 0]⟩),
 (36, ⟨.struct [(0, 5), (5, 2), (7, 1), (8, 1), (9, 1), (10, 1), (11, 1), (12, 1), (13, 1), (14, 2), (16, 1), (17, 1), (18, 1), (19, 1), (20, 1), (21, 1), (22, 1)], 23, 344, [.int .i64 0, .int .i64 0, .int .i64 0, .int .i64 0, .int .i64 0, .slice none 0 0, .slice none 0 0, .int .i64 0, .slice none 0 0, .slice none 0 0, .slice none 0 0, .slice none 0 0, .int .i64 0, .slice none 0 0, .slice none 0 0, .bool false, .slice none 0 0, .int .i64 0, .int .i64 0, .int .i64 0, .int .i64 0, .int .i64 0, .slice none 0 0]⟩),
 (37, ⟨.slice 123, 1, 24, [.slice none 0 0]⟩),
 (39, ⟨.struct [(0, 1), (1, 1), (2, 1), (3, 1), (4, 1), (5, 1), (6, 1)], 7, 72, [.int .i64 0, .slice none 0 0, .int .i64 0, .int .i64 0, .int .i64 0, .bool false, .int .i64 0]⟩),
 (40, ⟨.struct [(0, 23), (23, 7)], 30, 416, [.int .i64 0, .int .i64 0, .int .i64 0, .int .i64 0, .int .i64 0, .slice none 0 0, .slice none 0 0, .int .i64 0, .slice none 0 0, .slice none 0 0, .slice none 0 0, .slice none 0 0, .int .i64 0, .slice none 0 0, .slice none 0 0, .bool false, .slice none 0 0, .int .i64 0, .int .i64 0, .int .i64 0, .int .i64 0, .int .i64 0, .slice none 0 0, .int .i64 0, .slice none 0 0, .int .i64 0, .int .i64 0, .int .i64 0, .bool false, .int .i64 0]⟩),
 (41, ⟨.struct [(0, 23), (23, 7)], 30, 416, [.int .i64 0, .int .i64 0, .int .i64 0, .int .i64 0, .int .i64 0, .slice none 0 0, .slice none 0 0, .int .i64 0, .slice none 0 0, .slice none 0 0, .slice none 0 0, .slice none 0 0, .int .i64 0, .slice none 0 0, .slice none 0 0, .bool false, .slice none 0 0, .int .i64 0, .int .i64 0, .int .i64 0, .int .i64 0, .int .i64 0, .slice none 0 0, .int .i64 0, .slice none 0 0, .int .i64 0, .int .i64 0, .int .i64 0, .bool false, .int .i64 0]⟩),
 (42, ⟨.other, 1, 8, [.nilFunc]⟩),
 (43, ⟨.other, 1, 8, [.nilFunc]⟩),
 (44, ⟨.other, 1, 8, [.nilFunc]⟩),
 (45, ⟨.struct [(0, 30), (30, 1), (31, 1), (32, 1)], 33, 448, [.int .i64 0, .int .i64 0, .int .i64 0, .int .i64 0, .int .i64 0, .slice none 0 0, .slice none 0 0, .int .i64 0, .slice none 0 0, .slice none 0 0, .slice none 0 0, .slice none 0 0, .int .i64 0, .slice none 0 0, .slice none 0 0, .bool false, .slice none 0 0, .int .i64 0, .int .i64 0, .int .i64 0, .int .i64 0, .int .i64 0, .slice none 0 0, .int .i64 0, .slice none 0 0, .int .i64 0, .int .i64 0, .int .i64 0, .bool false, .int .i64 0, .string ⟨#[]⟩, .bool false, .int .i64 0]⟩),
 (46, ⟨.struct [(0, 30), (30, 1), (31, 1), (32, 1)], 33, 448, [.int .i64 0, .int .i64 0, .int .i64 0, .int .i64 0, .int .i64 0, .slice none 0 0, .slice none 0 0, .int .i64 0, .slice none 0 0, .slice none 0 0, .slice none 0 0, .slice none 0 0, .int .i64 0, .slice none 0 0, .slice none 0 0, .bool false, .slice none 0 0, .int .i64 0, .int .i64 0, .int .i64 0, .int .i64 0, .int .i64 0, .slice none 0 0, .int .i64 0, .slice none 0 0, .int .i64 0, .int .i64 0, .int .i64 0, .bool false, .int .i64 0, .string ⟨#[]⟩, .bool false, .int .i64 0]⟩),
 (47, ⟨.int .i64, 1, 8, [.int .i64 0]⟩),
 (49, ⟨.other, 1, 8, [.nilFunc]⟩),
 (58, ⟨.other, 1, 8, [.nilFunc]⟩),
 (59, ⟨.other, 1, 8, [.nilFunc]⟩),
 (60, ⟨.other, 1, 8, [.nilFunc]⟩),
 (61, ⟨.struct [(0, 30), (30, 1), (31, 1), (32, 1), (33, 1)], 34, 448, [.int .i64 0, .int .i64 0, .int .i64 0, .int .i64 0, .int .i64 0, .slice none 0 0, .slice none 0 0, .int .i64 0, .slice none 0 0, .slice none 0 0, .slice none 0 0, .slice none 0 0, .int .i64 0, .slice none 0 0, .slice none 0 0, .bool false, .slice none 0 0, .int .i64 0, .int .i64 0, .int .i64 0, .int .i64 0, .int .i64 0, .slice none 0 0, .int .i64 0, .slice none 0 0, .int .i64 0, .int .i64 0, .int .i64 0, .bool false, .int .i64 0, .string ⟨#[]⟩, .int .i64 0, .bool false, .int .u8 0]⟩),
 (62, ⟨.struct [(0, 30), (30, 1), (31, 1), (32, 1), (33, 1)], 34, 448, [.int .i64 0, .int .i64 0, .int .i64 0, .int .i64 0, .int .i64 0, .slice none 0 0, .slice none 0 0, .int .i64 0, .slice none 0 0, .slice none 0 0, .slice none 0 0, .slice none 0 0, .int .i64 0, .slice none 0 0, .slice none 0 0, .bool false, .slice none 0 0, .int .i64 0, .int .i64 0, .int .i64 0, .int .i64 0, .int .i64 0, .slice none 0 0, .int .i64 0, .slice none 0 0, .int .i64 0, .int .i64 0, .int .i64 0, .bool false, .int .i64 0, .string ⟨#[]⟩, .int .i64 0, .bool false, .int .u8 0]⟩),
 (63, ⟨.other, 1, 8, [.nilFunc]⟩),
 (64, ⟨.other, 1, 8, [.nilFunc]⟩),
 (66, ⟨.other, 1, 8, [.nilFunc]⟩),
 (67, ⟨.struct [(0, 1), (1, 1), (2, 1)], 3, 32, [.string ⟨#[]⟩, .int .i64 0, .int .i64 0]⟩),
 (68, ⟨.struct [(0, 1), (1, 1), (2, 1)], 3, 32, [.string ⟨#[]⟩, .int .i64 0, .int .i64 0]⟩),
 (70, ⟨.other, 1, 8, [.nilFunc]⟩),
 (71, ⟨.other, 1, 8, [.nilFunc]⟩),
 (72, ⟨.other, 1, 8, [.nilFunc]⟩),
 (73, ⟨.other, 1, 8, [.nilFunc]⟩),
 (74, ⟨.other, 1, 8, [.nilFunc]⟩),
 (75, ⟨.slice 28, 1, 24, [.slice none 0 0]⟩),
 (77, ⟨.other, 1, 8, [.nilFunc]⟩),
 (78, ⟨.other, 1, 8, [.nilFunc]⟩),
 (79, ⟨.other, 1, 8, [.nilFunc]⟩),
 (80, ⟨.other, 1, 8, [.nilFunc]⟩),
 (81, ⟨.other, 1, 8, [.nilFunc]⟩),
 (82, ⟨.other, 1, 8, [.nilFunc]⟩),
 (83, ⟨.other, 1, 8, [.nilFunc]⟩),
 (84, ⟨.other, 1, 8, [.nilFunc]⟩),
 (85, ⟨.pointer 91, 1, 8, [.pointer none]⟩),
 (86, ⟨.other, 1, 8, [.nilFunc]⟩),
 (87, ⟨.other, 1, 8, [.nilFunc]⟩),
 (88, ⟨.struct [(0, 1)], 1, 8, [.int .i64 0]⟩),
 (89, ⟨.struct [(0, 1)], 1, 8, [.int .i64 0]⟩),
 (91, ⟨.struct [(0, 30), (30, 1)], 31, 424, [.int .i64 0, .int .i64 0, .int .i64 0, .int .i64 0, .int .i64 0, .slice none 0 0, .slice none 0 0, .int .i64 0, .slice none 0 0, .slice none 0 0, .slice none 0 0, .slice none 0 0, .int .i64 0, .slice none 0 0, .slice none 0 0, .bool false, .slice none 0 0, .int .i64 0, .int .i64 0, .int .i64 0, .int .i64 0, .int .i64 0, .slice none 0 0, .int .i64 0, .slice none 0 0, .int .i64 0, .int .i64 0, .int .i64 0, .bool false, .int .i64 0, .int .i64 0]⟩),
 (92, ⟨.other, 1, 8, [.nilFunc]⟩),
 (93, ⟨.other, 1, 8, [.nilFunc]⟩),
 (98, ⟨.other, 1, 8, [.nilFunc]⟩),
 (99, ⟨.other, 1, 8, [.nilFunc]⟩),
 (100, ⟨.struct [(0, 1), (1, 1), (2, 1), (3, 1)], 4, 32, [.int .i64 0, .int .i64 0, .int .i64 0, .bool false]⟩),
 (101, ⟨.struct [(0, 1), (1, 1), (2, 1), (3, 1)], 4, 32, [.int .i64 0, .int .i64 0, .int .i64 0, .bool false]⟩),
 (103, ⟨.other, 1, 8, [.nilFunc]⟩),
 (104, ⟨.other, 1, 8, [.nilFunc]⟩),
 (105, ⟨.other, 1, 8, [.nilFunc]⟩),
 (108, ⟨.other, 1, 8, [.nilFunc]⟩),
 (110, ⟨.other, 1, 8, [.nilFunc]⟩),
 (111, ⟨.other, 1, 8, [.nilFunc]⟩),
 (112, ⟨.slice 9, 1, 24, [.slice none 0 0]⟩),
 (113, ⟨.other, 1, 8, [.nilFunc]⟩),
 (114, ⟨.other, 1, 8, [.nilFunc]⟩),
 (115, ⟨.struct [(0, 23), (23, 1), (24, 1), (25, 1), (26, 1)], 27, 376, [.int .i64 0, .int .i64 0, .int .i64 0, .int .i64 0, .int .i64 0, .slice none 0 0, .slice none 0 0, .int .i64 0, .slice none 0 0, .slice none 0 0, .slice none 0 0, .slice none 0 0, .int .i64 0, .slice none 0 0, .slice none 0 0, .bool false, .slice none 0 0, .int .i64 0, .int .i64 0, .int .i64 0, .int .i64 0, .int .i64 0, .slice none 0 0, .int .i64 0, .int .i64 0, .bool false, .int .i64 0]⟩),
 (116, ⟨.struct [(0, 23), (23, 1), (24, 1), (25, 1), (26, 1)], 27, 376, [.int .i64 0, .int .i64 0, .int .i64 0, .int .i64 0, .int .i64 0, .slice none 0 0, .slice none 0 0, .int .i64 0, .slice none 0 0, .slice none 0 0, .slice none 0 0, .slice none 0 0, .int .i64 0, .slice none 0 0, .slice none 0 0, .bool false, .slice none 0 0, .int .i64 0, .int .i64 0, .int .i64 0, .int .i64 0, .int .i64 0, .slice none 0 0, .int .i64 0, .int .i64 0, .bool false, .int .i64 0]⟩),
 (117, ⟨.other, 1, 8, [.nilFunc]⟩),
 (120, ⟨.other, 1, 8, [.nilFunc]⟩),
 (121, ⟨.other, 1, 8, [.nilFunc]⟩),
 (123, ⟨.struct [(0, 1), (1, 1), (2, 1)], 3, 40, [.int .i64 0, .int .i64 0, .slice none 0 0]⟩),
 (131, ⟨.struct [(0, 1), (1, 1), (2, 1)], 3, 24, [.int .i64 0, .int .i64 0, .int .i64 0]⟩),
 (138, ⟨.struct [(0, 1), (1, 1), (2, 1), (3, 1), (4, 1), (5, 1)], 6, 48, [.int .i64 0, .int .i64 0, .int .i64 0, .int .i64 0, .int .i64 0, .int .i64 0]⟩),
 (140, ⟨.other, 1, 8, [.nilFunc]⟩),
 (142, ⟨.pointer 89, 1, 8, [.pointer none]⟩),
 (162, ⟨.struct [(0, 23), (23, 1), (24, 1), (25, 1), (26, 1), (27, 1)], 28, 376, [.int .i64 0, .int .i64 0, .int .i64 0, .int .i64 0, .int .i64 0, .slice none 0 0, .slice none 0 0, .int .i64 0, .slice none 0 0, .slice none 0 0, .slice none 0 0, .slice none 0 0, .int .i64 0, .slice none 0 0, .slice none 0 0, .bool false, .slice none 0 0, .int .i64 0, .int .i64 0, .int .i64 0, .int .i64 0, .int .i64 0, .slice none 0 0, .int .i64 0, .int .i64 0, .bool false, .bool false, .int .i64 0]⟩),
 (167, ⟨.struct [(0, 1), (1, 1)], 2, 32, [.int .i64 0, .slice none 0 0]⟩),
 (170, ⟨.other, 1, 8, [.nilFunc]⟩),
 (180, ⟨.other, 1, 8, [.nilFunc]⟩),
 (181, ⟨.other, 1, 8, [.nilFunc]⟩),
 (183, ⟨.pointer 162, 1, 8, [.pointer none]⟩),
 (192, ⟨.struct [(0, 2), (2, 1)], 3, 56, [.slice none 0 0, .slice none 0 0, .int .i64 0]⟩),
 (196, ⟨.array 8 5, 8, 8, [.int .u8 0, .int .u8 0, .int .u8 0, .int .u8 0, .int .u8 0, .int .u8 0, .int .u8 0, .int .u8 0]⟩),
 (197, ⟨.int .u64, 1, 8, [.int .u64 0]⟩),
 (200, ⟨.other, 1, 8, [.nilFunc]⟩),
 (201, ⟨.pointer 5, 1, 8, [.pointer none]⟩),
 (202, ⟨.other, 1, 8, [.nilFunc]⟩)]
def tt : Nat → Option TI := lkT ttL
theorem tok : ∀ t ti, tt t = some ti → tiOf Tryz.prog t = some ti := lkT_ok Tryz.prog ttL ⟨ti2, ti3, ti4, ti5, ti6, ti8, ti9, ti12, ti13, ti23, ti24, ti25, ti27, ti28, ti29, ti30, ti32, ti33, ti34, ti35, ti36, ti37, ti39, ti40, ti41, ti42, ti43, ti44, ti45, ti46, ti47, ti49, ti58, ti59, ti60, ti61, ti62, ti63, ti64, ti66, ti67, ti68, ti70, ti71, ti72, ti73, ti74, ti75, ti77, ti78, ti79, ti80, ti81, ti82, ti83, ti84, ti85, ti86, ti87, ti88, ti89, ti91, ti92, ti93, ti98, ti99, ti100, ti101, ti103, ti104, ti105, ti108, ti110, ti111, ti112, ti113, ti114, ti115, ti116, ti117, ti120, ti121, ti123, ti131, ti138, ti140, ti142, ti162, ti167, ti170, ti180, ti181, ti183, ti192, ti196, ti197, ti200, ti201, ti202, trivial⟩
theorem hmix : Tryz.prog.follows .mixedOrders = true := by kernel_rfl
theorem goF {f : FuncId} {fn : Func} {code : Code} {args : List AV} {res : AV} (hf : Tryz.prog.funcs[f]? = some fn) (hcl : ∀ x, x ∈ args → Closed x) (h : ∀ (w0 : World) (st0 : Nat → Prop), awp ⟨Tryz.prog, tt, tok, fn.ntmps, w0, st0, fun _ => False, (none, false), RC.bare st0⟩ code ⟨frOf 0 args, [], 0⟩ (retA ⟨Tryz.prog, tt, tok, fn.ntmps, w0, st0, fun _ => False, (none, false), RC.bare st0⟩ fn.results res)) (hb : fn.body = some code := by exact rfl) (hn : (fn.name == "runtime.NumGoroutine") = false := by kernel_rfl) (hlen : Nat.ble args.length fn.ntmps = true := by kernel_rfl) : FnC Tryz.prog f args res := FnC.of_awp (T := tt) (ok := tok) hf hn hb hlen hcl h
theorem goA {p q : Prop} (n : q) (h : q → p := by first | exact awp_seq | exact awp_block | exact awp_rg hmix | exact fun h => ARun.o rfl h) : p := h n
theorem goN {p q : Prop} (n : q) (h : q → p := by first | exact awp_seq | exact awp_block) : p := h n
theorem goB {p q : Prop} (n : q) (h : q → p := by first | (first | refine fun h => ARun.f ?_ | refine fun h => awp_skip ?_ | refine fun h => awp_exit ?_); dsimp only [thenA, blockA, AS.bump, List.length_cons, List.length_nil, reduceIte, Nat.reduceEqDiff]; exact h | exact fun h => awp_cT rfl h | exact fun h => awp_cF rfl h | ((fail_if_success refine fun h => ARun.plain rfl ?_); first | exact fun h => ARun.kT rfl rfl rfl h | exact fun h => ARun.kF rfl rfl rfl h)) : p := h n
end Go.Proofs.YthlbcakjngcjbaaGreat
