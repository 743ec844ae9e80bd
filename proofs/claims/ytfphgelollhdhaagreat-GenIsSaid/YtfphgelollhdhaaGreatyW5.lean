/- yT. -/
import Derived.Test.YtfphgelollhdhaaGreatW1
import Derived.Test.YtfphgelollhdhaaGreatW2
import Derived.Test.YtfphgelollhdhaaGreatW3
import Derived.Test.YtfphgelollhdhaaGreatW4
import Derived.Test.YtfphgelollhdhaaGreatProg
import Derived.KernelRfl
set_option linter.unusedVariables false
set_option linter.unusedSimpArgs false
namespace Go.Proofs.YtfphgelollhdhaaGreat
open Go
theorem ti1 : tiOf Tryz.prog 1 = some ⟨.other, 1, 8, [.nilFunc]⟩ := by kernel_rfl
theorem ti2 : tiOf Tryz.prog 2 = some ⟨.int .i64, 1, 8, [.int .i64 0]⟩ := by kernel_rfl
theorem ti3 : tiOf Tryz.prog 3 = some ⟨.int .i64, 1, 8, [.int .i64 0]⟩ := by kernel_rfl
theorem ti4 : tiOf Tryz.prog 4 = some ⟨.bool, 1, 1, [.bool false]⟩ := by kernel_rfl
theorem ti5 : tiOf Tryz.prog 5 = some ⟨.int .u8, 1, 1, [.int .u8 0]⟩ := by kernel_rfl
theorem ti6 : tiOf Tryz.prog 6 = some ⟨.int .u8, 1, 1, [.int .u8 0]⟩ := by kernel_rfl
theorem ti7 : tiOf Tryz.prog 7 = some ⟨.struct [(0, 1), (1, 1), (2, 1), (3, 1)], 4, 24, [.int .i64 0, .int .i64 0, .bool false, .int .u8 0]⟩ := by kernel_rfl
theorem ti8 : tiOf Tryz.prog 8 = some ⟨.struct [(0, 1), (1, 1), (2, 1), (3, 1)], 4, 24, [.int .i64 0, .int .i64 0, .bool false, .int .u8 0]⟩ := by kernel_rfl
theorem ti9 : tiOf Tryz.prog 9 = some ⟨.str, 1, 16, [.string ⟨#[]⟩]⟩ := by kernel_rfl
theorem ti10 : tiOf Tryz.prog 10 = some ⟨.str, 1, 16, [.string ⟨#[]⟩]⟩ := by kernel_rfl
theorem ti11 : tiOf Tryz.prog 11 = some ⟨.str, 1, 16, [.string ⟨#[]⟩]⟩ := by kernel_rfl
theorem ti12 : tiOf Tryz.prog 12 = some ⟨.int .u64, 1, 8, [.int .u64 0]⟩ := by kernel_rfl
theorem ti13 : tiOf Tryz.prog 13 = some ⟨.struct [(0, 1), (1, 1)], 2, 24, [.string ⟨#[]⟩, .int .u64 0]⟩ := by kernel_rfl
theorem ti14 : tiOf Tryz.prog 14 = some ⟨.struct [(0, 1), (1, 1)], 2, 24, [.string ⟨#[]⟩, .int .u64 0]⟩ := by kernel_rfl
theorem ti15 : tiOf Tryz.prog 15 = some ⟨.pointer 230, 1, 8, [.pointer none]⟩ := by kernel_rfl
theorem ti16 : tiOf Tryz.prog 16 = some ⟨.pointer 233, 1, 8, [.pointer none]⟩ := by kernel_rfl
theorem ti17 : tiOf Tryz.prog 17 = some ⟨.pointer 242, 1, 8, [.pointer none]⟩ := by kernel_rfl
theorem ti18 : tiOf Tryz.prog 18 = some ⟨.struct [(0, 1)], 1, 8, [.pointer none]⟩ := by kernel_rfl
theorem ti19 : tiOf Tryz.prog 19 = some ⟨.struct [(0, 1)], 1, 8, [.pointer none]⟩ := by kernel_rfl
theorem ti21 : tiOf Tryz.prog 21 = some ⟨.int .i32, 1, 4, [.int .i32 0]⟩ := by kernel_rfl
theorem ti22 : tiOf Tryz.prog 22 = some ⟨.slice 9, 1, 24, [.slice none 0 0]⟩ := by kernel_rfl
theorem ti23 : tiOf Tryz.prog 23 = some ⟨.other, 1, 8, [.nilFunc]⟩ := by kernel_rfl
theorem ti24 : tiOf Tryz.prog 24 = some ⟨.struct [(0, 1), (1, 1), (2, 1), (3, 1), (4, 1)], 5, 40, [.int .i64 0, .int .i64 0, .int .i64 0, .int .i64 0, .int .i64 0]⟩ := by kernel_rfl
theorem ti25 : tiOf Tryz.prog 25 = some ⟨.struct [(0, 1), (1, 1), (2, 1), (3, 1), (4, 1)], 5, 40, [.int .i64 0, .int .i64 0, .int .i64 0, .int .i64 0, .int .i64 0]⟩ := by kernel_rfl
theorem ti26 : tiOf Tryz.prog 26 = some ⟨.slice 5, 1, 24, [.slice none 0 0]⟩ := by kernel_rfl
theorem ti27 : tiOf Tryz.prog 27 = some ⟨.slice 178, 1, 24, [.slice none 0 0]⟩ := by kernel_rfl
theorem ti28 : tiOf Tryz.prog 28 = some ⟨.struct [(0, 1), (1, 1)], 2, 48, [.slice none 0 0, .slice none 0 0]⟩ := by kernel_rfl
theorem ti29 : tiOf Tryz.prog 29 = some ⟨.struct [(0, 1), (1, 1)], 2, 48, [.slice none 0 0, .slice none 0 0]⟩ := by kernel_rfl
theorem ti30 : tiOf Tryz.prog 30 = some ⟨.slice 3, 1, 24, [.slice none 0 0]⟩ := by kernel_rfl
theorem ti31 : tiOf Tryz.prog 31 = some ⟨.slice 171, 1, 24, [.slice none 0 0]⟩ := by kernel_rfl
theorem ti32 : tiOf Tryz.prog 32 = some ⟨.slice 81, 1, 24, [.slice none 0 0]⟩ := by kernel_rfl
theorem ti33 : tiOf Tryz.prog 33 = some ⟨.struct [(0, 1), (1, 1)], 2, 32, [.slice none 0 0, .bool false]⟩ := by kernel_rfl
theorem ti34 : tiOf Tryz.prog 34 = some ⟨.struct [(0, 1), (1, 1)], 2, 32, [.slice none 0 0, .bool false]⟩ := by kernel_rfl
theorem ti35 : tiOf Tryz.prog 35 = some ⟨.slice 220, 1, 24, [.slice none 0 0]⟩ := by kernel_rfl
theorem ti36 : tiOf Tryz.prog 36 = some ⟨.slice 167, 1, 24, [.slice none 0 0]⟩ := by kernel_rfl
theorem ti37 : tiOf Tryz.prog 37 = some ⟨.struct [(0, 5), (5, 2), (7, 1), (8, 1), (9, 1), (10, 1), (11, 1), (12, 1), (13, 1), (14, 2), (16, 1), (17, 1), (18, 1), (19, 1), (20, 1), (21, 1), (22, 1)], 23, 344, [.int .i64 0, .int .i64 0, .int .i64 0, .int .i64 0, .int .i64 0, .slice none 0 0, .slice none 0 0, .int .i64 0, .slice none 0 0, .slice none 0 0, .slice none 0 0, .slice none 0 0, .int .i64 0, .slice none 0 0, .slice none 0 0, .bool false, .slice none 0 0, .int .i64 0, .int .i64 0, .int .i64 0, .int .i64 0, .int .i64 0, .slice none 0 0]⟩ := by kernel_rfl
theorem ti38 : tiOf Tryz.prog 38 = some ⟨.struct [(0, 5), (5, 2), (7, 1), (8, 1), (9, 1), (10, 1), (11, 1), (12, 1), (13, 1), (14, 2), (16, 1), (17, 1), (18, 1), (19, 1), (20, 1), (21, 1), (22, 1)], 23, 344, [.int .i64 0, .int .i64 0, .int .i64 0, .int .i64 0, .int .i64 0, .slice none 0 0, .slice none 0 0, .int .i64 0, .slice none 0 0, .slice none 0 0, .slice none 0 0, .slice none 0 0, .int .i64 0, .slice none 0 0, .slice none 0 0, .bool false, .slice none 0 0, .int .i64 0, .int .i64 0, .int .i64 0, .int .i64 0, .int .i64 0, .slice none 0 0]⟩ := by kernel_rfl
theorem ti39 : tiOf Tryz.prog 39 = some ⟨.slice 152, 1, 24, [.slice none 0 0]⟩ := by kernel_rfl
theorem ti40 : tiOf Tryz.prog 40 = some ⟨.struct [(0, 1), (1, 1), (2, 1), (3, 1), (4, 1), (5, 1), (6, 1)], 7, 72, [.int .i64 0, .slice none 0 0, .int .i64 0, .int .i64 0, .int .i64 0, .bool false, .int .i64 0]⟩ := by kernel_rfl
theorem ti41 : tiOf Tryz.prog 41 = some ⟨.struct [(0, 1), (1, 1), (2, 1), (3, 1), (4, 1), (5, 1), (6, 1)], 7, 72, [.int .i64 0, .slice none 0 0, .int .i64 0, .int .i64 0, .int .i64 0, .bool false, .int .i64 0]⟩ := by kernel_rfl
theorem ti42 : tiOf Tryz.prog 42 = some ⟨.struct [(0, 23), (23, 7)], 30, 416, [.int .i64 0, .int .i64 0, .int .i64 0, .int .i64 0, .int .i64 0, .slice none 0 0, .slice none 0 0, .int .i64 0, .slice none 0 0, .slice none 0 0, .slice none 0 0, .slice none 0 0, .int .i64 0, .slice none 0 0, .slice none 0 0, .bool false, .slice none 0 0, .int .i64 0, .int .i64 0, .int .i64 0, .int .i64 0, .int .i64 0, .slice none 0 0, .int .i64 0, .slice none 0 0, .int .i64 0, .int .i64 0, .int .i64 0, .bool false, .int .i64 0]⟩ := by kernel_rfl
theorem ti43 : tiOf Tryz.prog 43 = some ⟨.struct [(0, 23), (23, 7)], 30, 416, [.int .i64 0, .int .i64 0, .int .i64 0, .int .i64 0, .int .i64 0, .slice none 0 0, .slice none 0 0, .int .i64 0, .slice none 0 0, .slice none 0 0, .slice none 0 0, .slice none 0 0, .int .i64 0, .slice none 0 0, .slice none 0 0, .bool false, .slice none 0 0, .int .i64 0, .int .i64 0, .int .i64 0, .int .i64 0, .int .i64 0, .slice none 0 0, .int .i64 0, .slice none 0 0, .int .i64 0, .int .i64 0, .int .i64 0, .bool false, .int .i64 0]⟩ := by kernel_rfl
theorem ti44 : tiOf Tryz.prog 44 = some ⟨.other, 1, 8, [.nilFunc]⟩ := by kernel_rfl
theorem ti45 : tiOf Tryz.prog 45 = some ⟨.slice 55, 1, 24, [.slice none 0 0]⟩ := by kernel_rfl
theorem ti47 : tiOf Tryz.prog 47 = some ⟨.other, 1, 8, [.nilFunc]⟩ := by kernel_rfl
theorem ti49 : tiOf Tryz.prog 49 = some ⟨.other, 1, 8, [.nilFunc]⟩ := by kernel_rfl
theorem ti50 : tiOf Tryz.prog 50 = some ⟨.other, 1, 8, [.nilFunc]⟩ := by kernel_rfl
theorem ti52 : tiOf Tryz.prog 52 = some ⟨.other, 1, 8, [.nilFunc]⟩ := by kernel_rfl
theorem ti53 : tiOf Tryz.prog 53 = some ⟨.other, 1, 8, [.nilFunc]⟩ := by kernel_rfl
theorem ti54 : tiOf Tryz.prog 54 = some ⟨.struct [(0, 1), (1, 1), (2, 1), (3, 1)], 4, 64, [.int .i64 0, .int .i64 0, .slice none 0 0, .slice none 0 0]⟩ := by kernel_rfl
theorem ti55 : tiOf Tryz.prog 55 = some ⟨.struct [(0, 1), (1, 1), (2, 1), (3, 1)], 4, 64, [.int .i64 0, .int .i64 0, .slice none 0 0, .slice none 0 0]⟩ := by kernel_rfl
theorem ti56 : tiOf Tryz.prog 56 = some ⟨.other, 1, 8, [.nilFunc]⟩ := by kernel_rfl
theorem ti57 : tiOf Tryz.prog 57 = some ⟨.other, 1, 8, [.nilFunc]⟩ := by kernel_rfl
theorem ti58 : tiOf Tryz.prog 58 = some ⟨.other, 1, 8, [.nilFunc]⟩ := by kernel_rfl
theorem ti60 : tiOf Tryz.prog 60 = some ⟨.other, 1, 8, [.nilFunc]⟩ := by kernel_rfl
theorem ti61 : tiOf Tryz.prog 61 = some ⟨.struct [(0, 23), (23, 1), (24, 1), (25, 1)], 26, 384, [.int .i64 0, .int .i64 0, .int .i64 0, .int .i64 0, .int .i64 0, .slice none 0 0, .slice none 0 0, .int .i64 0, .slice none 0 0, .slice none 0 0, .slice none 0 0, .slice none 0 0, .int .i64 0, .slice none 0 0, .slice none 0 0, .bool false, .slice none 0 0, .int .i64 0, .int .i64 0, .int .i64 0, .int .i64 0, .int .i64 0, .slice none 0 0, .slice none 0 0, .int .i64 0, .int .i64 0]⟩ := by kernel_rfl
theorem ti62 : tiOf Tryz.prog 62 = some ⟨.struct [(0, 23), (23, 1), (24, 1), (25, 1)], 26, 384, [.int .i64 0, .int .i64 0, .int .i64 0, .int .i64 0, .int .i64 0, .slice none 0 0, .slice none 0 0, .int .i64 0, .slice none 0 0, .slice none 0 0, .slice none 0 0, .slice none 0 0, .int .i64 0, .slice none 0 0, .slice none 0 0, .bool false, .slice none 0 0, .int .i64 0, .int .i64 0, .int .i64 0, .int .i64 0, .int .i64 0, .slice none 0 0, .slice none 0 0, .int .i64 0, .int .i64 0]⟩ := by kernel_rfl
theorem ti64 : tiOf Tryz.prog 64 = some ⟨.other, 1, 8, [.nilFunc]⟩ := by kernel_rfl
theorem ti66 : tiOf Tryz.prog 66 = some ⟨.other, 1, 8, [.nilFunc]⟩ := by kernel_rfl
theorem ti67 : tiOf Tryz.prog 67 = some ⟨.other, 1, 8, [.nilFunc]⟩ := by kernel_rfl
theorem ti68 : tiOf Tryz.prog 68 = some ⟨.other, 1, 8, [.nilFunc]⟩ := by kernel_rfl
theorem ti69 : tiOf Tryz.prog 69 = some ⟨.pointer 71, 1, 8, [.pointer none]⟩ := by kernel_rfl
theorem ti70 : tiOf Tryz.prog 70 = some ⟨.struct [(0, 1), (1, 1), (2, 1), (3, 1)], 4, 48, [.int .i64 0, .int .i64 0, .int .i64 0, .slice none 0 0]⟩ := by kernel_rfl
theorem ti71 : tiOf Tryz.prog 71 = some ⟨.struct [(0, 1), (1, 1), (2, 1), (3, 1)], 4, 48, [.int .i64 0, .int .i64 0, .int .i64 0, .slice none 0 0]⟩ := by kernel_rfl
theorem ti72 : tiOf Tryz.prog 72 = some ⟨.other, 1, 8, [.nilFunc]⟩ := by kernel_rfl
theorem ti73 : tiOf Tryz.prog 73 = some ⟨.other, 1, 8, [.nilFunc]⟩ := by kernel_rfl
theorem ti74 : tiOf Tryz.prog 74 = some ⟨.other, 1, 8, [.nilFunc]⟩ := by kernel_rfl
theorem ti75 : tiOf Tryz.prog 75 = some ⟨.other, 1, 8, [.nilFunc]⟩ := by kernel_rfl
theorem ti76 : tiOf Tryz.prog 76 = some ⟨.other, 1, 8, [.nilFunc]⟩ := by kernel_rfl
theorem ti77 : tiOf Tryz.prog 77 = some ⟨.other, 1, 8, [.nilFunc]⟩ := by kernel_rfl
theorem ti78 : tiOf Tryz.prog 78 = some ⟨.other, 1, 8, [.nilFunc]⟩ := by kernel_rfl
theorem ti79 : tiOf Tryz.prog 79 = some ⟨.other, 1, 8, [.nilFunc]⟩ := by kernel_rfl
theorem ti80 : tiOf Tryz.prog 80 = some ⟨.struct [(0, 1), (1, 1), (2, 1)], 3, 32, [.string ⟨#[]⟩, .int .i64 0, .int .i64 0]⟩ := by kernel_rfl
theorem ti81 : tiOf Tryz.prog 81 = some ⟨.struct [(0, 1), (1, 1), (2, 1)], 3, 32, [.string ⟨#[]⟩, .int .i64 0, .int .i64 0]⟩ := by kernel_rfl
theorem ti82 : tiOf Tryz.prog 82 = some ⟨.pointer 62, 1, 8, [.pointer none]⟩ := by kernel_rfl
theorem ti83 : tiOf Tryz.prog 83 = some ⟨.other, 1, 8, [.nilFunc]⟩ := by kernel_rfl
theorem ti84 : tiOf Tryz.prog 84 = some ⟨.other, 1, 8, [.nilFunc]⟩ := by kernel_rfl
theorem ti86 : tiOf Tryz.prog 86 = some ⟨.other, 1, 8, [.nilFunc]⟩ := by kernel_rfl
theorem ti87 : tiOf Tryz.prog 87 = some ⟨.other, 1, 8, [.nilFunc]⟩ := by kernel_rfl
theorem ti89 : tiOf Tryz.prog 89 = some ⟨.other, 1, 8, [.nilFunc]⟩ := by kernel_rfl
theorem ti90 : tiOf Tryz.prog 90 = some ⟨.struct [(0, 30), (30, 1), (31, 1), (32, 1), (33, 1)], 34, 456, [.int .i64 0, .int .i64 0, .int .i64 0, .int .i64 0, .int .i64 0, .slice none 0 0, .slice none 0 0, .int .i64 0, .slice none 0 0, .slice none 0 0, .slice none 0 0, .slice none 0 0, .int .i64 0, .slice none 0 0, .slice none 0 0, .bool false, .slice none 0 0, .int .i64 0, .int .i64 0, .int .i64 0, .int .i64 0, .int .i64 0, .slice none 0 0, .int .i64 0, .slice none 0 0, .int .i64 0, .int .i64 0, .int .i64 0, .bool false, .int .i64 0, .string ⟨#[]⟩, .int .i64 0, .int .i64 0, .int .i64 0]⟩ := by kernel_rfl
theorem ti91 : tiOf Tryz.prog 91 = some ⟨.struct [(0, 30), (30, 1), (31, 1), (32, 1), (33, 1)], 34, 456, [.int .i64 0, .int .i64 0, .int .i64 0, .int .i64 0, .int .i64 0, .slice none 0 0, .slice none 0 0, .int .i64 0, .slice none 0 0, .slice none 0 0, .slice none 0 0, .slice none 0 0, .int .i64 0, .slice none 0 0, .slice none 0 0, .bool false, .slice none 0 0, .int .i64 0, .int .i64 0, .int .i64 0, .int .i64 0, .int .i64 0, .slice none 0 0, .int .i64 0, .slice none 0 0, .int .i64 0, .int .i64 0, .int .i64 0, .bool false, .int .i64 0, .string ⟨#[]⟩, .int .i64 0, .int .i64 0, .int .i64 0]⟩ := by kernel_rfl
theorem ti92 : tiOf Tryz.prog 92 = some ⟨.other, 1, 8, [.nilFunc]⟩ := by kernel_rfl
theorem ti94 : tiOf Tryz.prog 94 = some ⟨.other, 1, 8, [.nilFunc]⟩ := by kernel_rfl
theorem ti95 : tiOf Tryz.prog 95 = some ⟨.other, 1, 8, [.nilFunc]⟩ := by kernel_rfl
theorem ti96 : tiOf Tryz.prog 96 = some ⟨.other, 1, 8, [.nilFunc]⟩ := by kernel_rfl
theorem ti97 : tiOf Tryz.prog 97 = some ⟨.other, 1, 8, [.nilFunc]⟩ := by kernel_rfl
theorem ti99 : tiOf Tryz.prog 99 = some ⟨.other, 1, 8, [.nilFunc]⟩ := by kernel_rfl
theorem ti100 : tiOf Tryz.prog 100 = some ⟨.other, 1, 8, [.nilFunc]⟩ := by kernel_rfl
theorem ti101 : tiOf Tryz.prog 101 = some ⟨.other, 1, 8, [.nilFunc]⟩ := by kernel_rfl
theorem ti103 : tiOf Tryz.prog 103 = some ⟨.other, 1, 8, [.nilFunc]⟩ := by kernel_rfl
theorem ti104 : tiOf Tryz.prog 104 = some ⟨.other, 1, 8, [.nilFunc]⟩ := by kernel_rfl
theorem ti105 : tiOf Tryz.prog 105 = some ⟨.other, 1, 8, [.nilFunc]⟩ := by kernel_rfl
theorem ti106 : tiOf Tryz.prog 106 = some ⟨.other, 1, 8, [.nilFunc]⟩ := by kernel_rfl
theorem ti107 : tiOf Tryz.prog 107 = some ⟨.int .u64, 1, 8, [.int .u64 0]⟩ := by kernel_rfl
theorem ti108 : tiOf Tryz.prog 108 = some ⟨.other, 1, 8, [.nilFunc]⟩ := by kernel_rfl
theorem ti109 : tiOf Tryz.prog 109 = some ⟨.other, 1, 8, [.nilFunc]⟩ := by kernel_rfl
theorem ti110 : tiOf Tryz.prog 110 = some ⟨.other, 1, 8, [.nilFunc]⟩ := by kernel_rfl
theorem ti111 : tiOf Tryz.prog 111 = some ⟨.other, 1, 8, [.nilFunc]⟩ := by kernel_rfl
theorem ti112 : tiOf Tryz.prog 112 = some ⟨.pointer 91, 1, 8, [.pointer none]⟩ := by kernel_rfl
theorem ti113 : tiOf Tryz.prog 113 = some ⟨.other, 1, 8, [.nilFunc]⟩ := by kernel_rfl
theorem ti114 : tiOf Tryz.prog 114 = some ⟨.other, 1, 8, [.nilFunc]⟩ := by kernel_rfl
theorem ti115 : tiOf Tryz.prog 115 = some ⟨.other, 1, 8, [.nilFunc]⟩ := by kernel_rfl
theorem ti116 : tiOf Tryz.prog 116 = some ⟨.other, 1, 8, [.nilFunc]⟩ := by kernel_rfl
theorem ti117 : tiOf Tryz.prog 117 = some ⟨.other, 1, 8, [.nilFunc]⟩ := by kernel_rfl
theorem ti119 : tiOf Tryz.prog 119 = some ⟨.other, 1, 8, [.nilFunc]⟩ := by kernel_rfl
theorem ti120 : tiOf Tryz.prog 120 = some ⟨.struct [(0, 23), (23, 1), (24, 1), (25, 1), (26, 1)], 27, 376, [.int .i64 0, .int .i64 0, .int .i64 0, .int .i64 0, .int .i64 0, .slice none 0 0, .slice none 0 0, .int .i64 0, .slice none 0 0, .slice none 0 0, .slice none 0 0, .slice none 0 0, .int .i64 0, .slice none 0 0, .slice none 0 0, .bool false, .slice none 0 0, .int .i64 0, .int .i64 0, .int .i64 0, .int .i64 0, .int .i64 0, .slice none 0 0, .int .i64 0, .int .i64 0, .bool false, .int .i64 0]⟩ := by kernel_rfl
theorem ti121 : tiOf Tryz.prog 121 = some ⟨.struct [(0, 23), (23, 1), (24, 1), (25, 1), (26, 1)], 27, 376, [.int .i64 0, .int .i64 0, .int .i64 0, .int .i64 0, .int .i64 0, .slice none 0 0, .slice none 0 0, .int .i64 0, .slice none 0 0, .slice none 0 0, .slice none 0 0, .slice none 0 0, .int .i64 0, .slice none 0 0, .slice none 0 0, .bool false, .slice none 0 0, .int .i64 0, .int .i64 0, .int .i64 0, .int .i64 0, .int .i64 0, .slice none 0 0, .int .i64 0, .int .i64 0, .bool false, .int .i64 0]⟩ := by kernel_rfl
theorem ti122 : tiOf Tryz.prog 122 = some ⟨.other, 1, 8, [.nilFunc]⟩ := by kernel_rfl
theorem ti124 : tiOf Tryz.prog 124 = some ⟨.other, 1, 8, [.nilFunc]⟩ := by kernel_rfl
theorem ti126 : tiOf Tryz.prog 126 = some ⟨.other, 1, 8, [.nilFunc]⟩ := by kernel_rfl
theorem ti128 : tiOf Tryz.prog 128 = some ⟨.other, 1, 8, [.nilFunc]⟩ := by kernel_rfl
theorem ti129 : tiOf Tryz.prog 129 = some ⟨.other, 1, 8, [.nilFunc]⟩ := by kernel_rfl
theorem ti131 : tiOf Tryz.prog 131 = some ⟨.other, 1, 8, [.nilFunc]⟩ := by kernel_rfl
theorem ti132 : tiOf Tryz.prog 132 = some ⟨.other, 1, 8, [.nilFunc]⟩ := by kernel_rfl
theorem ti133 : tiOf Tryz.prog 133 = some ⟨.other, 1, 8, [.nilFunc]⟩ := by kernel_rfl
theorem ti134 : tiOf Tryz.prog 134 = some ⟨.other, 1, 8, [.nilFunc]⟩ := by kernel_rfl
theorem ti136 : tiOf Tryz.prog 136 = some ⟨.other, 1, 8, [.nilFunc]⟩ := by kernel_rfl
theorem ti138 : tiOf Tryz.prog 138 = some ⟨.other, 1, 8, [.nilFunc]⟩ := by kernel_rfl
theorem ti139 : tiOf Tryz.prog 139 = some ⟨.other, 1, 8, [.nilFunc]⟩ := by kernel_rfl
theorem ti140 : tiOf Tryz.prog 140 = some ⟨.other, 1, 8, [.nilFunc]⟩ := by kernel_rfl
theorem ti141 : tiOf Tryz.prog 141 = some ⟨.other, 1, 8, [.nilFunc]⟩ := by kernel_rfl
theorem ti142 : tiOf Tryz.prog 142 = some ⟨.other, 1, 8, [.nilFunc]⟩ := by kernel_rfl
theorem ti143 : tiOf Tryz.prog 143 = some ⟨.other, 1, 8, [.nilFunc]⟩ := by kernel_rfl
theorem ti144 : tiOf Tryz.prog 144 = some ⟨.other, 1, 8, [.nilFunc]⟩ := by kernel_rfl
theorem ti146 : tiOf Tryz.prog 146 = some ⟨.other, 1, 8, [.nilFunc]⟩ := by kernel_rfl
theorem ti147 : tiOf Tryz.prog 147 = some ⟨.other, 1, 8, [.nilFunc]⟩ := by kernel_rfl
theorem ti148 : tiOf Tryz.prog 148 = some ⟨.other, 1, 8, [.nilFunc]⟩ := by kernel_rfl
theorem ti149 : tiOf Tryz.prog 149 = some ⟨.other, 1, 8, [.nilFunc]⟩ := by kernel_rfl
theorem ti150 : tiOf Tryz.prog 150 = some ⟨.other, 1, 8, [.nilFunc]⟩ := by kernel_rfl
theorem ti151 : tiOf Tryz.prog 151 = some ⟨.struct [(0, 1), (1, 1), (2, 1)], 3, 40, [.int .i64 0, .int .i64 0, .slice none 0 0]⟩ := by kernel_rfl
theorem ti152 : tiOf Tryz.prog 152 = some ⟨.struct [(0, 1), (1, 1), (2, 1)], 3, 40, [.int .i64 0, .int .i64 0, .slice none 0 0]⟩ := by kernel_rfl
theorem ti153 : tiOf Tryz.prog 153 = some ⟨.other, 1, 8, [.nilFunc]⟩ := by kernel_rfl
theorem ti154 : tiOf Tryz.prog 154 = some ⟨.other, 1, 8, [.nilFunc]⟩ := by kernel_rfl
theorem ti155 : tiOf Tryz.prog 155 = some ⟨.struct [(0, 23), (23, 1), (24, 1), (25, 1), (26, 1), (27, 1)], 28, 376, [.int .i64 0, .int .i64 0, .int .i64 0, .int .i64 0, .int .i64 0, .slice none 0 0, .slice none 0 0, .int .i64 0, .slice none 0 0, .slice none 0 0, .slice none 0 0, .slice none 0 0, .int .i64 0, .slice none 0 0, .slice none 0 0, .bool false, .slice none 0 0, .int .i64 0, .int .i64 0, .int .i64 0, .int .i64 0, .int .i64 0, .slice none 0 0, .int .i64 0, .int .i64 0, .bool false, .bool false, .int .i64 0]⟩ := by kernel_rfl
theorem ti156 : tiOf Tryz.prog 156 = some ⟨.struct [(0, 23), (23, 1), (24, 1), (25, 1), (26, 1), (27, 1)], 28, 376, [.int .i64 0, .int .i64 0, .int .i64 0, .int .i64 0, .int .i64 0, .slice none 0 0, .slice none 0 0, .int .i64 0, .slice none 0 0, .slice none 0 0, .slice none 0 0, .slice none 0 0, .int .i64 0, .slice none 0 0, .slice none 0 0, .bool false, .slice none 0 0, .int .i64 0, .int .i64 0, .int .i64 0, .int .i64 0, .int .i64 0, .slice none 0 0, .int .i64 0, .int .i64 0, .bool false, .bool false, .int .i64 0]⟩ := by kernel_rfl
theorem ti158 : tiOf Tryz.prog 158 = some ⟨.other, 1, 8, [.nilFunc]⟩ := by kernel_rfl
theorem ti159 : tiOf Tryz.prog 159 = some ⟨.other, 1, 8, [.nilFunc]⟩ := by kernel_rfl
theorem ti160 : tiOf Tryz.prog 160 = some ⟨.other, 1, 8, [.nilFunc]⟩ := by kernel_rfl
theorem ti162 : tiOf Tryz.prog 162 = some ⟨.other, 1, 8, [.nilFunc]⟩ := by kernel_rfl
theorem ti164 : tiOf Tryz.prog 164 = some ⟨.other, 1, 8, [.nilFunc]⟩ := by kernel_rfl
theorem ti165 : tiOf Tryz.prog 165 = some ⟨.other, 1, 8, [.nilFunc]⟩ := by kernel_rfl
theorem ti166 : tiOf Tryz.prog 166 = some ⟨.struct [(0, 1), (1, 1), (2, 1), (3, 1)], 4, 32, [.int .i64 0, .int .i64 0, .int .i64 0, .bool false]⟩ := by kernel_rfl
theorem ti167 : tiOf Tryz.prog 167 = some ⟨.struct [(0, 1), (1, 1), (2, 1), (3, 1)], 4, 32, [.int .i64 0, .int .i64 0, .int .i64 0, .bool false]⟩ := by kernel_rfl
theorem ti168 : tiOf Tryz.prog 168 = some ⟨.other, 1, 8, [.nilFunc]⟩ := by kernel_rfl
theorem ti169 : tiOf Tryz.prog 169 = some ⟨.other, 1, 8, [.nilFunc]⟩ := by kernel_rfl
theorem ti170 : tiOf Tryz.prog 170 = some ⟨.struct [(0, 1), (1, 1), (2, 1)], 3, 24, [.int .i64 0, .int .i64 0, .int .i64 0]⟩ := by kernel_rfl
theorem ti171 : tiOf Tryz.prog 171 = some ⟨.struct [(0, 1), (1, 1), (2, 1)], 3, 24, [.int .i64 0, .int .i64 0, .int .i64 0]⟩ := by kernel_rfl
theorem ti172 : tiOf Tryz.prog 172 = some ⟨.other, 1, 8, [.nilFunc]⟩ := by kernel_rfl
theorem ti173 : tiOf Tryz.prog 173 = some ⟨.other, 1, 8, [.nilFunc]⟩ := by kernel_rfl
theorem ti174 : tiOf Tryz.prog 174 = some ⟨.pointer 156, 1, 8, [.pointer none]⟩ := by kernel_rfl
theorem ti176 : tiOf Tryz.prog 176 = some ⟨.other, 1, 8, [.nilFunc]⟩ := by kernel_rfl
theorem ti177 : tiOf Tryz.prog 177 = some ⟨.struct [(0, 1), (1, 1)], 2, 32, [.int .i64 0, .slice none 0 0]⟩ := by kernel_rfl
theorem ti178 : tiOf Tryz.prog 178 = some ⟨.struct [(0, 1), (1, 1)], 2, 32, [.int .i64 0, .slice none 0 0]⟩ := by kernel_rfl
theorem ti179 : tiOf Tryz.prog 179 = some ⟨.other, 1, 8, [.nilFunc]⟩ := by kernel_rfl
theorem ti181 : tiOf Tryz.prog 181 = some ⟨.other, 1, 8, [.nilFunc]⟩ := by kernel_rfl
theorem ti183 : tiOf Tryz.prog 183 = some ⟨.other, 1, 8, [.nilFunc]⟩ := by kernel_rfl
theorem ti184 : tiOf Tryz.prog 184 = some ⟨.other, 1, 8, [.nilFunc]⟩ := by kernel_rfl
theorem ti186 : tiOf Tryz.prog 186 = some ⟨.other, 1, 8, [.nilFunc]⟩ := by kernel_rfl
theorem ti187 : tiOf Tryz.prog 187 = some ⟨.other, 1, 8, [.nilFunc]⟩ := by kernel_rfl
theorem ti188 : tiOf Tryz.prog 188 = some ⟨.other, 1, 8, [.nilFunc]⟩ := by kernel_rfl
theorem ti189 : tiOf Tryz.prog 189 = some ⟨.other, 1, 8, [.nilFunc]⟩ := by kernel_rfl
theorem ti191 : tiOf Tryz.prog 191 = some ⟨.other, 1, 8, [.nilFunc]⟩ := by kernel_rfl
theorem ti193 : tiOf Tryz.prog 193 = some ⟨.other, 1, 8, [.nilFunc]⟩ := by kernel_rfl
theorem ti195 : tiOf Tryz.prog 195 = some ⟨.other, 1, 8, [.nilFunc]⟩ := by kernel_rfl
theorem ti197 : tiOf Tryz.prog 197 = some ⟨.other, 1, 8, [.nilFunc]⟩ := by kernel_rfl
theorem ti198 : tiOf Tryz.prog 198 = some ⟨.other, 1, 8, [.nilFunc]⟩ := by kernel_rfl
theorem ti199 : tiOf Tryz.prog 199 = some ⟨.other, 1, 8, [.nilFunc]⟩ := by kernel_rfl
theorem ti200 : tiOf Tryz.prog 200 = some ⟨.other, 1, 8, [.nilFunc]⟩ := by kernel_rfl
theorem ti202 : tiOf Tryz.prog 202 = some ⟨.other, 1, 8, [.nilFunc]⟩ := by kernel_rfl
theorem ti203 : tiOf Tryz.prog 203 = some ⟨.other, 1, 8, [.nilFunc]⟩ := by kernel_rfl
theorem ti204 : tiOf Tryz.prog 204 = some ⟨.other, 1, 8, [.nilFunc]⟩ := by kernel_rfl
theorem ti205 : tiOf Tryz.prog 205 = some ⟨.other, 1, 8, [.nilFunc]⟩ := by kernel_rfl
theorem ti206 : tiOf Tryz.prog 206 = some ⟨.other, 1, 8, [.nilFunc]⟩ := by kernel_rfl
theorem ti207 : tiOf Tryz.prog 207 = some ⟨.other, 1, 8, [.nilFunc]⟩ := by kernel_rfl
theorem ti208 : tiOf Tryz.prog 208 = some ⟨.other, 1, 8, [.nilFunc]⟩ := by kernel_rfl
theorem ti209 : tiOf Tryz.prog 209 = some ⟨.other, 1, 8, [.nilFunc]⟩ := by kernel_rfl
theorem ti210 : tiOf Tryz.prog 210 = some ⟨.other, 1, 8, [.nilFunc]⟩ := by kernel_rfl
theorem ti211 : tiOf Tryz.prog 211 = some ⟨.other, 1, 8, [.nilFunc]⟩ := by kernel_rfl
theorem ti212 : tiOf Tryz.prog 212 = some ⟨.other, 1, 8, [.nilFunc]⟩ := by kernel_rfl
theorem ti214 : tiOf Tryz.prog 214 = some ⟨.other, 1, 8, [.nilFunc]⟩ := by kernel_rfl
theorem ti216 : tiOf Tryz.prog 216 = some ⟨.other, 1, 8, [.nilFunc]⟩ := by kernel_rfl
theorem ti217 : tiOf Tryz.prog 217 = some ⟨.other, 1, 8, [.nilFunc]⟩ := by kernel_rfl
theorem ti218 : tiOf Tryz.prog 218 = some ⟨.other, 1, 8, [.nilFunc]⟩ := by kernel_rfl
theorem ti219 : tiOf Tryz.prog 219 = some ⟨.struct [(0, 1), (1, 1), (2, 1), (3, 1), (4, 1), (5, 1)], 6, 48, [.int .i64 0, .int .i64 0, .int .i64 0, .int .i64 0, .int .i64 0, .int .i64 0]⟩ := by kernel_rfl
theorem ti220 : tiOf Tryz.prog 220 = some ⟨.struct [(0, 1), (1, 1), (2, 1), (3, 1), (4, 1), (5, 1)], 6, 48, [.int .i64 0, .int .i64 0, .int .i64 0, .int .i64 0, .int .i64 0, .int .i64 0]⟩ := by kernel_rfl
theorem ti222 : tiOf Tryz.prog 222 = some ⟨.other, 1, 8, [.nilFunc]⟩ := by kernel_rfl
theorem ti223 : tiOf Tryz.prog 223 = some ⟨.other, 1, 8, [.nilFunc]⟩ := by kernel_rfl
theorem ti224 : tiOf Tryz.prog 224 = some ⟨.other, 1, 8, [.nilFunc]⟩ := by kernel_rfl
theorem ti226 : tiOf Tryz.prog 226 = some ⟨.other, 1, 8, [.nilFunc]⟩ := by kernel_rfl
theorem ti227 : tiOf Tryz.prog 227 = some ⟨.other, 1, 8, [.nilFunc]⟩ := by kernel_rfl
theorem ti228 : tiOf Tryz.prog 228 = some ⟨.int .u64, 1, 8, [.int .u64 0]⟩ := by kernel_rfl
theorem ti229 : tiOf Tryz.prog 229 = some ⟨.struct [(0, 1), (1, 1), (2, 1), (3, 1)], 4, 40, [.pointer none, .pointer none, .pointer none, .string ⟨#[]⟩]⟩ := by kernel_rfl
theorem ti230 : tiOf Tryz.prog 230 = some ⟨.struct [(0, 1), (1, 1), (2, 1), (3, 1)], 4, 40, [.pointer none, .pointer none, .pointer none, .string ⟨#[]⟩]⟩ := by kernel_rfl
theorem ti231 : tiOf Tryz.prog 231 = some ⟨.array 0 16, 0, 0, []⟩ := by kernel_rfl
theorem ti232 : tiOf Tryz.prog 232 = some ⟨.struct [(0, 0)], 0, 0, []⟩ := by kernel_rfl
theorem ti233 : tiOf Tryz.prog 233 = some ⟨.struct [(0, 0)], 0, 0, []⟩ := by kernel_rfl
theorem ti234 : tiOf Tryz.prog 234 = some ⟨.int .u32, 1, 4, [.int .u32 0]⟩ := by kernel_rfl
theorem ti235 : tiOf Tryz.prog 235 = some ⟨.int .u8, 1, 1, [.int .u8 0]⟩ := by kernel_rfl
theorem ti236 : tiOf Tryz.prog 236 = some ⟨.int .u8, 1, 1, [.int .u8 0]⟩ := by kernel_rfl
theorem ti237 : tiOf Tryz.prog 237 = some ⟨.other, 1, 8, [.nilFunc]⟩ := by kernel_rfl
theorem ti238 : tiOf Tryz.prog 238 = some ⟨.pointer 5, 1, 8, [.pointer none]⟩ := by kernel_rfl
theorem ti239 : tiOf Tryz.prog 239 = some ⟨.int .i32, 1, 4, [.int .i32 0]⟩ := by kernel_rfl
theorem ti240 : tiOf Tryz.prog 240 = some ⟨.int .i32, 1, 4, [.int .i32 0]⟩ := by kernel_rfl
theorem ti241 : tiOf Tryz.prog 241 = some ⟨.struct [(0, 1), (1, 1), (2, 1), (3, 1), (4, 1), (5, 1), (6, 1), (7, 1), (8, 1), (9, 1), (10, 1)], 11, 48, [.int .u64 0, .int .u64 0, .int .u32 0, .int .u8 0, .int .u8 0, .int .u8 0, .int .u8 0, .nilFunc, .pointer none, .int .i32 0, .int .i32 0]⟩ := by kernel_rfl
theorem ti242 : tiOf Tryz.prog 242 = some ⟨.struct [(0, 1), (1, 1), (2, 1), (3, 1), (4, 1), (5, 1), (6, 1), (7, 1), (8, 1), (9, 1), (10, 1)], 11, 48, [.int .u64 0, .int .u64 0, .int .u32 0, .int .u8 0, .int .u8 0, .int .u8 0, .int .u8 0, .nilFunc, .pointer none, .int .i32 0, .int .i32 0]⟩ := by kernel_rfl
def ttL : List (Nat × TI) := [
 (1, ⟨.other, 1, 8, [.nilFunc]⟩),
 (2, ⟨.int .i64, 1, 8, [.int .i64 0]⟩),
 (3, ⟨.int .i64, 1, 8, [.int .i64 0]⟩),
 (4, ⟨.bool, 1, 1, [.bool false]⟩),
 (5, ⟨.int .u8, 1, 1, [.int .u8 0]⟩),
 (6, ⟨.int .u8, 1, 1, [.int .u8 0]⟩),
 (7, ⟨.struct [(0, 1), (1, 1), (2, 1), (3, 1)], 4, 24, [.int .i64 0, .int .i64 0, .bool false, .int .u8 0]⟩),
 (8, ⟨.struct [(0, 1), (1, 1), (2, 1), (3, 1)], 4, 24, [.int .i64 0, .int .i64 0, .bool false, .int .u8 0]⟩),
 (9, ⟨.str, 1, 16, [.string ⟨#[]⟩]⟩),
 (10, ⟨.str, 1, 16, [.string ⟨#[]⟩]⟩),
 (11, ⟨.str, 1, 16, [.string ⟨#[]⟩]⟩),
 (12, ⟨.int .u64, 1, 8, [.int .u64 0]⟩),
 (13, ⟨.struct [(0, 1), (1, 1)], 2, 24, [.string ⟨#[]⟩, .int .u64 0]⟩),
 (14, ⟨.struct [(0, 1), (1, 1)], 2, 24, [.string ⟨#[]⟩, .int .u64 0]⟩),
 (15, ⟨.pointer 230, 1, 8, [.pointer none]⟩),
 (16, ⟨.pointer 233, 1, 8, [.pointer none]⟩),
 (17, ⟨.pointer 242, 1, 8, [.pointer none]⟩),
 (18, ⟨.struct [(0, 1)], 1, 8, [.pointer none]⟩),
 (19, ⟨.struct [(0, 1)], 1, 8, [.pointer none]⟩),
 (21, ⟨.int .i32, 1, 4, [.int .i32 0]⟩),
 (22, ⟨.slice 9, 1, 24, [.slice none 0 0]⟩),
 (23, ⟨.other, 1, 8, [.nilFunc]⟩),
 (24, ⟨.struct [(0, 1), (1, 1), (2, 1), (3, 1), (4, 1)], 5, 40, [.int .i64 0, .int .i64 0, .int .i64 0, .int .i64 0, .int .i64 0]⟩),
 (25, ⟨.struct [(0, 1), (1, 1), (2, 1), (3, 1), (4, 1)], 5, 40, [.int .i64 0, .int .i64 0, .int .i64 0, .int .i64 0, .int .i64 0]⟩),
 (26, ⟨.slice 5, 1, 24, [.slice none 0 0]⟩),
 (27, ⟨.slice 178, 1, 24, [.slice none 0 0]⟩),
 (28, ⟨.struct [(0, 1), (1, 1)], 2, 48, [.slice none 0 0, .slice none 0 0]⟩),
 (29, ⟨.struct [(0, 1), (1, 1)], 2, 48, [.slice none 0 0, .slice none 0 0]⟩),
 (30, ⟨.slice 3, 1, 24, [.slice none 0 0]⟩),
 (31, ⟨.slice 171, 1, 24, [.slice none 0 0]⟩),
 (32, ⟨.slice 81, 1, 24, [.slice none 0 0]⟩),
 (33, ⟨.struct [(0, 1), (1, 1)], 2, 32, [.slice none 0 0, .bool false]⟩),
 (34, ⟨.struct [(0, 1), (1, 1)], 2, 32, [.slice none 0 0, .bool false]⟩),
 (35, ⟨.slice 220, 1, 24, [.slice none 0 0]⟩),
 (36, ⟨.slice 167, 1, 24, [.slice none 0 0]⟩),
 (37, ⟨.struct [(0, 5), (5, 2), (7, 1), (8, 1), (9, 1), (10, 1), (11, 1), (12, 1), (13, 1), (14, 2), (16, 1), (17, 1), (18, 1), (19, 1), (20, 1), (21, 1), (22, 1)], 23, 344, [.int .i64 0, .int .i64 0, .int .i64 0, .int .i64 0, .int .i64 0, .slice none 0 0, .slice none 0 0, .int .i64 0, .slice none 0 0, .slice none 0 0, .slice none 0 0, .slice none 0 0, .int .i64 0, .slice none 0 0, .slice none 0 0, .bool false, .slice none 0 0, .int .i64 0, .int .i64 0, .int .i64 0, .int .i64 0, .int .i64 0, .slice none 0 0]⟩),
 (38, ⟨.struct [(0, 5), (5, 2), (7, 1), (8, 1), (9, 1), (10, 1), (11, 1), (12, 1), (13, 1), (14, 2), (16, 1), (17, 1), (18, 1), (19, 1), (20, 1), (21, 1), (22, 1)], 23, 344, [.int .i64 0, .int .i64 0, .int .i64 0, .int .i64 0, .int .i64 0, .slice none 0 0, .slice none 0 0, .int .i64 0, .slice none 0 0, .slice none 0 0, .slice none 0 0, .slice none 0 0, .int .i64 0, .slice none 0 0, .slice none 0 0, .bool false, .slice none 0 0, .int .i64 0, .int .i64 0, .int .i64 0, .int .i64 0, .int .i64 0, .slice none 0 0]⟩),
 (39, ⟨.slice 152, 1, 24, [.slice none 0 0]⟩),
 (40, ⟨.struct [(0, 1), (1, 1), (2, 1), (3, 1), (4, 1), (5, 1), (6, 1)], 7, 72, [.int .i64 0, .slice none 0 0, .int .i64 0, .int .i64 0, .int .i64 0, .bool false, .int .i64 0]⟩),
 (41, ⟨.struct [(0, 1), (1, 1), (2, 1), (3, 1), (4, 1), (5, 1), (6, 1)], 7, 72, [.int .i64 0, .slice none 0 0, .int .i64 0, .int .i64 0, .int .i64 0, .bool false, .int .i64 0]⟩),
 (42, ⟨.struct [(0, 23), (23, 7)], 30, 416, [.int .i64 0, .int .i64 0, .int .i64 0, .int .i64 0, .int .i64 0, .slice none 0 0, .slice none 0 0, .int .i64 0, .slice none 0 0, .slice none 0 0, .slice none 0 0, .slice none 0 0, .int .i64 0, .slice none 0 0, .slice none 0 0, .bool false, .slice none 0 0, .int .i64 0, .int .i64 0, .int .i64 0, .int .i64 0, .int .i64 0, .slice none 0 0, .int .i64 0, .slice none 0 0, .int .i64 0, .int .i64 0, .int .i64 0, .bool false, .int .i64 0]⟩),
 (43, ⟨.struct [(0, 23), (23, 7)], 30, 416, [.int .i64 0, .int .i64 0, .int .i64 0, .int .i64 0, .int .i64 0, .slice none 0 0, .slice none 0 0, .int .i64 0, .slice none 0 0, .slice none 0 0, .slice none 0 0, .slice none 0 0, .int .i64 0, .slice none 0 0, .slice none 0 0, .bool false, .slice none 0 0, .int .i64 0, .int .i64 0, .int .i64 0, .int .i64 0, .int .i64 0, .slice none 0 0, .int .i64 0, .slice none 0 0, .int .i64 0, .int .i64 0, .int .i64 0, .bool false, .int .i64 0]⟩),
 (44, ⟨.other, 1, 8, [.nilFunc]⟩),
 (45, ⟨.slice 55, 1, 24, [.slice none 0 0]⟩),
 (47, ⟨.other, 1, 8, [.nilFunc]⟩),
 (49, ⟨.other, 1, 8, [.nilFunc]⟩),
 (50, ⟨.other, 1, 8, [.nilFunc]⟩),
 (52, ⟨.other, 1, 8, [.nilFunc]⟩),
 (53, ⟨.other, 1, 8, [.nilFunc]⟩),
 (54, ⟨.struct [(0, 1), (1, 1), (2, 1), (3, 1)], 4, 64, [.int .i64 0, .int .i64 0, .slice none 0 0, .slice none 0 0]⟩),
 (55, ⟨.struct [(0, 1), (1, 1), (2, 1), (3, 1)], 4, 64, [.int .i64 0, .int .i64 0, .slice none 0 0, .slice none 0 0]⟩),
 (56, ⟨.other, 1, 8, [.nilFunc]⟩),
 (57, ⟨.other, 1, 8, [.nilFunc]⟩),
 (58, ⟨.other, 1, 8, [.nilFunc]⟩),
 (60, ⟨.other, 1, 8, [.nilFunc]⟩),
 (61, ⟨.struct [(0, 23), (23, 1), (24, 1), (25, 1)], 26, 384, [.int .i64 0, .int .i64 0, .int .i64 0, .int .i64 0, .int .i64 0, .slice none 0 0, .slice none 0 0, .int .i64 0, .slice none 0 0, .slice none 0 0, .slice none 0 0, .slice none 0 0, .int .i64 0, .slice none 0 0, .slice none 0 0, .bool false, .slice none 0 0, .int .i64 0, .int .i64 0, .int .i64 0, .int .i64 0, .int .i64 0, .slice none 0 0, .slice none 0 0, .int .i64 0, .int .i64 0]⟩),
 (62, ⟨.struct [(0, 23), (23, 1), (24, 1), (25, 1)], 26, 384, [.int .i64 0, .int .i64 0, .int .i64 0, .int .i64 0, .int .i64 0, .slice none 0 0, .slice none 0 0, .int .i64 0, .slice none 0 0, .slice none 0 0, .slice none 0 0, .slice none 0 0, .int .i64 0, .slice none 0 0, .slice none 0 0, .bool false, .slice none 0 0, .int .i64 0, .int .i64 0, .int .i64 0, .int .i64 0, .int .i64 0, .slice none 0 0, .slice none 0 0, .int .i64 0, .int .i64 0]⟩),
 (64, ⟨.other, 1, 8, [.nilFunc]⟩),
 (66, ⟨.other, 1, 8, [.nilFunc]⟩),
 (67, ⟨.other, 1, 8, [.nilFunc]⟩),
 (68, ⟨.other, 1, 8, [.nilFunc]⟩),
 (69, ⟨.pointer 71, 1, 8, [.pointer none]⟩),
 (70, ⟨.struct [(0, 1), (1, 1), (2, 1), (3, 1)], 4, 48, [.int .i64 0, .int .i64 0, .int .i64 0, .slice none 0 0]⟩),
 (71, ⟨.struct [(0, 1), (1, 1), (2, 1), (3, 1)], 4, 48, [.int .i64 0, .int .i64 0, .int .i64 0, .slice none 0 0]⟩),
 (72, ⟨.other, 1, 8, [.nilFunc]⟩),
 (73, ⟨.other, 1, 8, [.nilFunc]⟩),
 (74, ⟨.other, 1, 8, [.nilFunc]⟩),
 (75, ⟨.other, 1, 8, [.nilFunc]⟩),
 (76, ⟨.other, 1, 8, [.nilFunc]⟩),
 (77, ⟨.other, 1, 8, [.nilFunc]⟩),
 (78, ⟨.other, 1, 8, [.nilFunc]⟩),
 (79, ⟨.other, 1, 8, [.nilFunc]⟩),
 (80, ⟨.struct [(0, 1), (1, 1), (2, 1)], 3, 32, [.string ⟨#[]⟩, .int .i64 0, .int .i64 0]⟩),
 (81, ⟨.struct [(0, 1), (1, 1), (2, 1)], 3, 32, [.string ⟨#[]⟩, .int .i64 0, .int .i64 0]⟩),
 (82, ⟨.pointer 62, 1, 8, [.pointer none]⟩),
 (83, ⟨.other, 1, 8, [.nilFunc]⟩),
 (84, ⟨.other, 1, 8, [.nilFunc]⟩),
 (86, ⟨.other, 1, 8, [.nilFunc]⟩),
 (87, ⟨.other, 1, 8, [.nilFunc]⟩),
 (89, ⟨.other, 1, 8, [.nilFunc]⟩),
 (90, ⟨.struct [(0, 30), (30, 1), (31, 1), (32, 1), (33, 1)], 34, 456, [.int .i64 0, .int .i64 0, .int .i64 0, .int .i64 0, .int .i64 0, .slice none 0 0, .slice none 0 0, .int .i64 0, .slice none 0 0, .slice none 0 0, .slice none 0 0, .slice none 0 0, .int .i64 0, .slice none 0 0, .slice none 0 0, .bool false, .slice none 0 0, .int .i64 0, .int .i64 0, .int .i64 0, .int .i64 0, .int .i64 0, .slice none 0 0, .int .i64 0, .slice none 0 0, .int .i64 0, .int .i64 0, .int .i64 0, .bool false, .int .i64 0, .string ⟨#[]⟩, .int .i64 0, .int .i64 0, .int .i64 0]⟩),
 (91, ⟨.struct [(0, 30), (30, 1), (31, 1), (32, 1), (33, 1)], 34, 456, [.int .i64 0, .int .i64 0, .int .i64 0, .int .i64 0, .int .i64 0, .slice none 0 0, .slice none 0 0, .int .i64 0, .slice none 0 0, .slice none 0 0, .slice none 0 0, .slice none 0 0, .int .i64 0, .slice none 0 0, .slice none 0 0, .bool false, .slice none 0 0, .int .i64 0, .int .i64 0, .int .i64 0, .int .i64 0, .int .i64 0, .slice none 0 0, .int .i64 0, .slice none 0 0, .int .i64 0, .int .i64 0, .int .i64 0, .bool false, .int .i64 0, .string ⟨#[]⟩, .int .i64 0, .int .i64 0, .int .i64 0]⟩),
 (92, ⟨.other, 1, 8, [.nilFunc]⟩),
 (94, ⟨.other, 1, 8, [.nilFunc]⟩),
 (95, ⟨.other, 1, 8, [.nilFunc]⟩),
 (96, ⟨.other, 1, 8, [.nilFunc]⟩),
 (97, ⟨.other, 1, 8, [.nilFunc]⟩),
 (99, ⟨.other, 1, 8, [.nilFunc]⟩),
 (100, ⟨.other, 1, 8, [.nilFunc]⟩),
 (101, ⟨.other, 1, 8, [.nilFunc]⟩),
 (103, ⟨.other, 1, 8, [.nilFunc]⟩),
 (104, ⟨.other, 1, 8, [.nilFunc]⟩),
 (105, ⟨.other, 1, 8, [.nilFunc]⟩),
 (106, ⟨.other, 1, 8, [.nilFunc]⟩),
 (107, ⟨.int .u64, 1, 8, [.int .u64 0]⟩),
 (108, ⟨.other, 1, 8, [.nilFunc]⟩),
 (109, ⟨.other, 1, 8, [.nilFunc]⟩),
 (110, ⟨.other, 1, 8, [.nilFunc]⟩),
 (111, ⟨.other, 1, 8, [.nilFunc]⟩),
 (112, ⟨.pointer 91, 1, 8, [.pointer none]⟩),
 (113, ⟨.other, 1, 8, [.nilFunc]⟩),
 (114, ⟨.other, 1, 8, [.nilFunc]⟩),
 (115, ⟨.other, 1, 8, [.nilFunc]⟩),
 (116, ⟨.other, 1, 8, [.nilFunc]⟩),
 (117, ⟨.other, 1, 8, [.nilFunc]⟩),
 (119, ⟨.other, 1, 8, [.nilFunc]⟩),
 (120, ⟨.struct [(0, 23), (23, 1), (24, 1), (25, 1), (26, 1)], 27, 376, [.int .i64 0, .int .i64 0, .int .i64 0, .int .i64 0, .int .i64 0, .slice none 0 0, .slice none 0 0, .int .i64 0, .slice none 0 0, .slice none 0 0, .slice none 0 0, .slice none 0 0, .int .i64 0, .slice none 0 0, .slice none 0 0, .bool false, .slice none 0 0, .int .i64 0, .int .i64 0, .int .i64 0, .int .i64 0, .int .i64 0, .slice none 0 0, .int .i64 0, .int .i64 0, .bool false, .int .i64 0]⟩),
 (121, ⟨.struct [(0, 23), (23, 1), (24, 1), (25, 1), (26, 1)], 27, 376, [.int .i64 0, .int .i64 0, .int .i64 0, .int .i64 0, .int .i64 0, .slice none 0 0, .slice none 0 0, .int .i64 0, .slice none 0 0, .slice none 0 0, .slice none 0 0, .slice none 0 0, .int .i64 0, .slice none 0 0, .slice none 0 0, .bool false, .slice none 0 0, .int .i64 0, .int .i64 0, .int .i64 0, .int .i64 0, .int .i64 0, .slice none 0 0, .int .i64 0, .int .i64 0, .bool false, .int .i64 0]⟩),
 (122, ⟨.other, 1, 8, [.nilFunc]⟩),
 (124, ⟨.other, 1, 8, [.nilFunc]⟩),
 (126, ⟨.other, 1, 8, [.nilFunc]⟩),
 (128, ⟨.other, 1, 8, [.nilFunc]⟩),
 (129, ⟨.other, 1, 8, [.nilFunc]⟩),
 (131, ⟨.other, 1, 8, [.nilFunc]⟩),
 (132, ⟨.other, 1, 8, [.nilFunc]⟩),
 (133, ⟨.other, 1, 8, [.nilFunc]⟩),
 (134, ⟨.other, 1, 8, [.nilFunc]⟩),
 (136, ⟨.other, 1, 8, [.nilFunc]⟩),
 (138, ⟨.other, 1, 8, [.nilFunc]⟩),
 (139, ⟨.other, 1, 8, [.nilFunc]⟩),
 (140, ⟨.other, 1, 8, [.nilFunc]⟩),
 (141, ⟨.other, 1, 8, [.nilFunc]⟩),
 (142, ⟨.other, 1, 8, [.nilFunc]⟩),
 (143, ⟨.other, 1, 8, [.nilFunc]⟩),
 (144, ⟨.other, 1, 8, [.nilFunc]⟩),
 (146, ⟨.other, 1, 8, [.nilFunc]⟩),
 (147, ⟨.other, 1, 8, [.nilFunc]⟩),
 (148, ⟨.other, 1, 8, [.nilFunc]⟩),
 (149, ⟨.other, 1, 8, [.nilFunc]⟩),
 (150, ⟨.other, 1, 8, [.nilFunc]⟩),
 (151, ⟨.struct [(0, 1), (1, 1), (2, 1)], 3, 40, [.int .i64 0, .int .i64 0, .slice none 0 0]⟩),
 (152, ⟨.struct [(0, 1), (1, 1), (2, 1)], 3, 40, [.int .i64 0, .int .i64 0, .slice none 0 0]⟩),
 (153, ⟨.other, 1, 8, [.nilFunc]⟩),
 (154, ⟨.other, 1, 8, [.nilFunc]⟩),
 (155, ⟨.struct [(0, 23), (23, 1), (24, 1), (25, 1), (26, 1), (27, 1)], 28, 376, [.int .i64 0, .int .i64 0, .int .i64 0, .int .i64 0, .int .i64 0, .slice none 0 0, .slice none 0 0, .int .i64 0, .slice none 0 0, .slice none 0 0, .slice none 0 0, .slice none 0 0, .int .i64 0, .slice none 0 0, .slice none 0 0, .bool false, .slice none 0 0, .int .i64 0, .int .i64 0, .int .i64 0, .int .i64 0, .int .i64 0, .slice none 0 0, .int .i64 0, .int .i64 0, .bool false, .bool false, .int .i64 0]⟩),
 (156, ⟨.struct [(0, 23), (23, 1), (24, 1), (25, 1), (26, 1), (27, 1)], 28, 376, [.int .i64 0, .int .i64 0, .int .i64 0, .int .i64 0, .int .i64 0, .slice none 0 0, .slice none 0 0, .int .i64 0, .slice none 0 0, .slice none 0 0, .slice none 0 0, .slice none 0 0, .int .i64 0, .slice none 0 0, .slice none 0 0, .bool false, .slice none 0 0, .int .i64 0, .int .i64 0, .int .i64 0, .int .i64 0, .int .i64 0, .slice none 0 0, .int .i64 0, .int .i64 0, .bool false, .bool false, .int .i64 0]⟩),
 (158, ⟨.other, 1, 8, [.nilFunc]⟩),
 (159, ⟨.other, 1, 8, [.nilFunc]⟩),
 (160, ⟨.other, 1, 8, [.nilFunc]⟩),
 (162, ⟨.other, 1, 8, [.nilFunc]⟩),
 (164, ⟨.other, 1, 8, [.nilFunc]⟩),
 (165, ⟨.other, 1, 8, [.nilFunc]⟩),
 (166, ⟨.struct [(0, 1), (1, 1), (2, 1), (3, 1)], 4, 32, [.int .i64 0, .int .i64 0, .int .i64 0, .bool false]⟩),
 (167, ⟨.struct [(0, 1), (1, 1), (2, 1), (3, 1)], 4, 32, [.int .i64 0, .int .i64 0, .int .i64 0, .bool false]⟩),
 (168, ⟨.other, 1, 8, [.nilFunc]⟩),
 (169, ⟨.other, 1, 8, [.nilFunc]⟩),
 (170, ⟨.struct [(0, 1), (1, 1), (2, 1)], 3, 24, [.int .i64 0, .int .i64 0, .int .i64 0]⟩),
 (171, ⟨.struct [(0, 1), (1, 1), (2, 1)], 3, 24, [.int .i64 0, .int .i64 0, .int .i64 0]⟩),
 (172, ⟨.other, 1, 8, [.nilFunc]⟩),
 (173, ⟨.other, 1, 8, [.nilFunc]⟩),
 (174, ⟨.pointer 156, 1, 8, [.pointer none]⟩),
 (176, ⟨.other, 1, 8, [.nilFunc]⟩),
 (177, ⟨.struct [(0, 1), (1, 1)], 2, 32, [.int .i64 0, .slice none 0 0]⟩),
 (178, ⟨.struct [(0, 1), (1, 1)], 2, 32, [.int .i64 0, .slice none 0 0]⟩),
 (179, ⟨.other, 1, 8, [.nilFunc]⟩),
 (181, ⟨.other, 1, 8, [.nilFunc]⟩),
 (183, ⟨.other, 1, 8, [.nilFunc]⟩),
 (184, ⟨.other, 1, 8, [.nilFunc]⟩),
 (186, ⟨.other, 1, 8, [.nilFunc]⟩),
 (187, ⟨.other, 1, 8, [.nilFunc]⟩),
 (188, ⟨.other, 1, 8, [.nilFunc]⟩),
 (189, ⟨.other, 1, 8, [.nilFunc]⟩),
 (191, ⟨.other, 1, 8, [.nilFunc]⟩),
 (193, ⟨.other, 1, 8, [.nilFunc]⟩),
 (195, ⟨.other, 1, 8, [.nilFunc]⟩),
 (197, ⟨.other, 1, 8, [.nilFunc]⟩),
 (198, ⟨.other, 1, 8, [.nilFunc]⟩),
 (199, ⟨.other, 1, 8, [.nilFunc]⟩),
 (200, ⟨.other, 1, 8, [.nilFunc]⟩),
 (202, ⟨.other, 1, 8, [.nilFunc]⟩),
 (203, ⟨.other, 1, 8, [.nilFunc]⟩),
 (204, ⟨.other, 1, 8, [.nilFunc]⟩),
 (205, ⟨.other, 1, 8, [.nilFunc]⟩),
 (206, ⟨.other, 1, 8, [.nilFunc]⟩),
 (207, ⟨.other, 1, 8, [.nilFunc]⟩),
 (208, ⟨.other, 1, 8, [.nilFunc]⟩),
 (209, ⟨.other, 1, 8, [.nilFunc]⟩),
 (210, ⟨.other, 1, 8, [.nilFunc]⟩),
 (211, ⟨.other, 1, 8, [.nilFunc]⟩),
 (212, ⟨.other, 1, 8, [.nilFunc]⟩),
 (214, ⟨.other, 1, 8, [.nilFunc]⟩),
 (216, ⟨.other, 1, 8, [.nilFunc]⟩),
 (217, ⟨.other, 1, 8, [.nilFunc]⟩),
 (218, ⟨.other, 1, 8, [.nilFunc]⟩),
 (219, ⟨.struct [(0, 1), (1, 1), (2, 1), (3, 1), (4, 1), (5, 1)], 6, 48, [.int .i64 0, .int .i64 0, .int .i64 0, .int .i64 0, .int .i64 0, .int .i64 0]⟩),
 (220, ⟨.struct [(0, 1), (1, 1), (2, 1), (3, 1), (4, 1), (5, 1)], 6, 48, [.int .i64 0, .int .i64 0, .int .i64 0, .int .i64 0, .int .i64 0, .int .i64 0]⟩),
 (222, ⟨.other, 1, 8, [.nilFunc]⟩),
 (223, ⟨.other, 1, 8, [.nilFunc]⟩),
 (224, ⟨.other, 1, 8, [.nilFunc]⟩),
 (226, ⟨.other, 1, 8, [.nilFunc]⟩),
 (227, ⟨.other, 1, 8, [.nilFunc]⟩),
 (228, ⟨.int .u64, 1, 8, [.int .u64 0]⟩),
 (229, ⟨.struct [(0, 1), (1, 1), (2, 1), (3, 1)], 4, 40, [.pointer none, .pointer none, .pointer none, .string ⟨#[]⟩]⟩),
 (230, ⟨.struct [(0, 1), (1, 1), (2, 1), (3, 1)], 4, 40, [.pointer none, .pointer none, .pointer none, .string ⟨#[]⟩]⟩),
 (231, ⟨.array 0 16, 0, 0, []⟩),
 (232, ⟨.struct [(0, 0)], 0, 0, []⟩),
 (233, ⟨.struct [(0, 0)], 0, 0, []⟩),
 (234, ⟨.int .u32, 1, 4, [.int .u32 0]⟩),
 (235, ⟨.int .u8, 1, 1, [.int .u8 0]⟩),
 (236, ⟨.int .u8, 1, 1, [.int .u8 0]⟩),
 (237, ⟨.other, 1, 8, [.nilFunc]⟩),
 (238, ⟨.pointer 5, 1, 8, [.pointer none]⟩),
 (239, ⟨.int .i32, 1, 4, [.int .i32 0]⟩),
 (240, ⟨.int .i32, 1, 4, [.int .i32 0]⟩),
 (241, ⟨.struct [(0, 1), (1, 1), (2, 1), (3, 1), (4, 1), (5, 1), (6, 1), (7, 1), (8, 1), (9, 1), (10, 1)], 11, 48, [.int .u64 0, .int .u64 0, .int .u32 0, .int .u8 0, .int .u8 0, .int .u8 0, .int .u8 0, .nilFunc, .pointer none, .int .i32 0, .int .i32 0]⟩),
 (242, ⟨.struct [(0, 1), (1, 1), (2, 1), (3, 1), (4, 1), (5, 1), (6, 1), (7, 1), (8, 1), (9, 1), (10, 1)], 11, 48, [.int .u64 0, .int .u64 0, .int .u32 0, .int .u8 0, .int .u8 0, .int .u8 0, .int .u8 0, .nilFunc, .pointer none, .int .i32 0, .int .i32 0]⟩)]
def tt : Nat → Option TI := lkT ttL
theorem tok : ∀ t ti, tt t = some ti → tiOf Tryz.prog t = some ti := lkT_ok Tryz.prog ttL ⟨ti1, ti2, ti3, ti4, ti5, ti6, ti7, ti8, ti9, ti10, ti11, ti12, ti13, ti14, ti15, ti16, ti17, ti18, ti19, ti21, ti22, ti23, ti24, ti25, ti26, ti27, ti28, ti29, ti30, ti31, ti32, ti33, ti34, ti35, ti36, ti37, ti38, ti39, ti40, ti41, ti42, ti43, ti44, ti45, ti47, ti49, ti50, ti52, ti53, ti54, ti55, ti56, ti57, ti58, ti60, ti61, ti62, ti64, ti66, ti67, ti68, ti69, ti70, ti71, ti72, ti73, ti74, ti75, ti76, ti77, ti78, ti79, ti80, ti81, ti82, ti83, ti84, ti86, ti87, ti89, ti90, ti91, ti92, ti94, ti95, ti96, ti97, ti99, ti100, ti101, ti103, ti104, ti105, ti106, ti107, ti108, ti109, ti110, ti111, ti112, ti113, ti114, ti115, ti116, ti117, ti119, ti120, ti121, ti122, ti124, ti126, ti128, ti129, ti131, ti132, ti133, ti134, ti136, ti138, ti139, ti140, ti141, ti142, ti143, ti144, ti146, ti147, ti148, ti149, ti150, ti151, ti152, ti153, ti154, ti155, ti156, ti158, ti159, ti160, ti162, ti164, ti165, ti166, ti167, ti168, ti169, ti170, ti171, ti172, ti173, ti174, ti176, ti177, ti178, ti179, ti181, ti183, ti184, ti186, ti187, ti188, ti189, ti191, ti193, ti195, ti197, ti198, ti199, ti200, ti202, ti203, ti204, ti205, ti206, ti207, ti208, ti209, ti210, ti211, ti212, ti214, ti216, ti217, ti218, ti219, ti220, ti222, ti223, ti224, ti226, ti227, ti228, ti229, ti230, ti231, ti232, ti233, ti234, ti235, ti236, ti237, ti238, ti239, ti240, ti241, ti242, trivial⟩
theorem hmix : Tryz.prog.follows .mixedOrders = true := by kernel_rfl
theorem goF {f : FuncId} {fn : Func} {code : Code} {args : List AV} {res : AV} (hf : Tryz.prog.funcs[f]? = some fn) (hcl : ∀ x, x ∈ args → Closed x) (h : ∀ (w0 : World) (st0 : Nat → Prop), awp ⟨Tryz.prog, tt, tok, fn.ntmps, w0, st0, fun _ => False, (none, false), RC.bare st0⟩ code ⟨frOf 0 args, [], 0⟩ (retA ⟨Tryz.prog, tt, tok, fn.ntmps, w0, st0, fun _ => False, (none, false), RC.bare st0⟩ fn.results res)) (hb : fn.body = some code := by exact rfl) (hn : (fn.name == "runtime.NumGoroutine") = false := by kernel_rfl) (hlen : Nat.ble args.length fn.ntmps = true := by kernel_rfl) : FnC Tryz.prog f args res := FnC.of_awp (T := tt) (ok := tok) hf hn hb hlen hcl h
theorem goA {p q : Prop} (n : q) (h : q → p := by first | exact awp_seq | exact awp_block | exact awp_rg hmix | exact fun h => ARun.o rfl h) : p := h n
theorem goN {p q : Prop} (n : q) (h : q → p := by first | exact awp_seq | exact awp_block) : p := h n
theorem goB {p q : Prop} (n : q) (h : q → p := by first | (first | refine fun h => ARun.f ?_ | refine fun h => awp_skip ?_ | refine fun h => awp_exit ?_); dsimp only [thenA, blockA, AS.bump, List.length_cons, List.length_nil, reduceIte, Nat.reduceEqDiff]; exact h | exact fun h => awp_cT rfl h | exact fun h => awp_cF rfl h | ((fail_if_success refine fun h => ARun.plain rfl ?_); first | exact fun h => ARun.kT rfl rfl rfl h | exact fun h => ARun.kF rfl rfl rfl h)) : p := h n
end Go.Proofs.YtfphgelollhdhaaGreat
