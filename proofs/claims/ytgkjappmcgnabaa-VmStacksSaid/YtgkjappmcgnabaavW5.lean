/- vT. -/
import Derived.Test.YtgkjappmcgnabaaW1
import Derived.Test.YtgkjappmcgnabaaW2
import Derived.Test.YtgkjappmcgnabaaW3
import Derived.Test.YtgkjappmcgnabaaW4
import Derived.Test.YtgkjappmcgnabaaProg
import Derived.KernelRfl
/- The table of types, as the walks use it. Printed by gent.py. -/
namespace Go.Proofs.Ytgkjappmcgnabaa
open Go
theorem ti1 : tiOf Try.prog 1 = some ⟨.other, 1, 8, [.nilFunc]⟩ := by kernel_rfl
theorem ti2 : tiOf Try.prog 2 = some ⟨.int .i64, 1, 8, [.int .i64 0]⟩ := by kernel_rfl
theorem ti3 : tiOf Try.prog 3 = some ⟨.int .i64, 1, 8, [.int .i64 0]⟩ := by kernel_rfl
theorem ti4 : tiOf Try.prog 4 = some ⟨.bool, 1, 1, [.bool false]⟩ := by kernel_rfl
theorem ti5 : tiOf Try.prog 5 = some ⟨.int .u8, 1, 1, [.int .u8 0]⟩ := by kernel_rfl
theorem ti6 : tiOf Try.prog 6 = some ⟨.int .u8, 1, 1, [.int .u8 0]⟩ := by kernel_rfl
theorem ti7 : tiOf Try.prog 7 = some ⟨.struct [(0, 1), (1, 1), (2, 1), (3, 1)], 4, 24, [.int .i64 0, .int .i64 0, .bool false, .int .u8 0]⟩ := by kernel_rfl
theorem ti8 : tiOf Try.prog 8 = some ⟨.struct [(0, 1), (1, 1), (2, 1), (3, 1)], 4, 24, [.int .i64 0, .int .i64 0, .bool false, .int .u8 0]⟩ := by kernel_rfl
theorem ti9 : tiOf Try.prog 9 = some ⟨.str, 1, 16, [.string ⟨#[]⟩]⟩ := by kernel_rfl
theorem ti10 : tiOf Try.prog 10 = some ⟨.str, 1, 16, [.string ⟨#[]⟩]⟩ := by kernel_rfl
theorem ti11 : tiOf Try.prog 11 = some ⟨.str, 1, 16, [.string ⟨#[]⟩]⟩ := by kernel_rfl
theorem ti12 : tiOf Try.prog 12 = some ⟨.int .u64, 1, 8, [.int .u64 0]⟩ := by kernel_rfl
theorem ti13 : tiOf Try.prog 13 = some ⟨.struct [(0, 1), (1, 1)], 2, 24, [.string ⟨#[]⟩, .int .u64 0]⟩ := by kernel_rfl
theorem ti14 : tiOf Try.prog 14 = some ⟨.struct [(0, 1), (1, 1)], 2, 24, [.string ⟨#[]⟩, .int .u64 0]⟩ := by kernel_rfl
theorem ti15 : tiOf Try.prog 15 = some ⟨.pointer 142, 1, 8, [.pointer none]⟩ := by kernel_rfl
theorem ti16 : tiOf Try.prog 16 = some ⟨.pointer 145, 1, 8, [.pointer none]⟩ := by kernel_rfl
theorem ti17 : tiOf Try.prog 17 = some ⟨.pointer 154, 1, 8, [.pointer none]⟩ := by kernel_rfl
theorem ti18 : tiOf Try.prog 18 = some ⟨.struct [(0, 1)], 1, 8, [.pointer none]⟩ := by kernel_rfl
theorem ti19 : tiOf Try.prog 19 = some ⟨.struct [(0, 1)], 1, 8, [.pointer none]⟩ := by kernel_rfl
theorem ti21 : tiOf Try.prog 21 = some ⟨.int .i32, 1, 4, [.int .i32 0]⟩ := by kernel_rfl
theorem ti22 : tiOf Try.prog 22 = some ⟨.struct [(0, 1), (1, 1), (2, 1), (3, 1), (4, 1)], 5, 40, [.int .i64 0, .int .i64 0, .int .i64 0, .int .i64 0, .int .i64 0]⟩ := by kernel_rfl
theorem ti23 : tiOf Try.prog 23 = some ⟨.struct [(0, 1), (1, 1), (2, 1), (3, 1), (4, 1)], 5, 40, [.int .i64 0, .int .i64 0, .int .i64 0, .int .i64 0, .int .i64 0]⟩ := by kernel_rfl
theorem ti24 : tiOf Try.prog 24 = some ⟨.slice 5, 1, 24, [.slice none 0 0]⟩ := by kernel_rfl
theorem ti25 : tiOf Try.prog 25 = some ⟨.slice 118, 1, 24, [.slice none 0 0]⟩ := by kernel_rfl
theorem ti26 : tiOf Try.prog 26 = some ⟨.struct [(0, 1), (1, 1)], 2, 48, [.slice none 0 0, .slice none 0 0]⟩ := by kernel_rfl
theorem ti27 : tiOf Try.prog 27 = some ⟨.struct [(0, 1), (1, 1)], 2, 48, [.slice none 0 0, .slice none 0 0]⟩ := by kernel_rfl
theorem ti28 : tiOf Try.prog 28 = some ⟨.slice 3, 1, 24, [.slice none 0 0]⟩ := by kernel_rfl
theorem ti29 : tiOf Try.prog 29 = some ⟨.slice 96, 1, 24, [.slice none 0 0]⟩ := by kernel_rfl
theorem ti30 : tiOf Try.prog 30 = some ⟨.slice 52, 1, 24, [.slice none 0 0]⟩ := by kernel_rfl
theorem ti31 : tiOf Try.prog 31 = some ⟨.struct [(0, 1), (1, 1)], 2, 32, [.slice none 0 0, .bool false]⟩ := by kernel_rfl
theorem ti32 : tiOf Try.prog 32 = some ⟨.struct [(0, 1), (1, 1)], 2, 32, [.slice none 0 0, .bool false]⟩ := by kernel_rfl
theorem ti33 : tiOf Try.prog 33 = some ⟨.slice 101, 1, 24, [.slice none 0 0]⟩ := by kernel_rfl
theorem ti34 : tiOf Try.prog 34 = some ⟨.slice 98, 1, 24, [.slice none 0 0]⟩ := by kernel_rfl
theorem ti35 : tiOf Try.prog 35 = some ⟨.struct [(0, 5), (5, 2), (7, 1), (8, 1), (9, 1), (10, 1), (11, 1), (12, 1), (13, 1), (14, 2), (16, 1), (17, 1), (18, 1), (19, 1), (20, 1), (21, 1), (22, 1)], 23, 344, [.int .i64 0, .int .i64 0, .int .i64 0, .int .i64 0, .int .i64 0, .slice none 0 0, .slice none 0 0, .int .i64 0, .slice none 0 0, .slice none 0 0, .slice none 0 0, .slice none 0 0, .int .i64 0, .slice none 0 0, .slice none 0 0, .bool false, .slice none 0 0, .int .i64 0, .int .i64 0, .int .i64 0, .int .i64 0, .int .i64 0, .slice none 0 0]⟩ := by kernel_rfl
theorem ti36 : tiOf Try.prog 36 = some ⟨.struct [(0, 5), (5, 2), (7, 1), (8, 1), (9, 1), (10, 1), (11, 1), (12, 1), (13, 1), (14, 2), (16, 1), (17, 1), (18, 1), (19, 1), (20, 1), (21, 1), (22, 1)], 23, 344, [.int .i64 0, .int .i64 0, .int .i64 0, .int .i64 0, .int .i64 0, .slice none 0 0, .slice none 0 0, .int .i64 0, .slice none 0 0, .slice none 0 0, .slice none 0 0, .slice none 0 0, .int .i64 0, .slice none 0 0, .slice none 0 0, .bool false, .slice none 0 0, .int .i64 0, .int .i64 0, .int .i64 0, .int .i64 0, .int .i64 0, .slice none 0 0]⟩ := by kernel_rfl
theorem ti37 : tiOf Try.prog 37 = some ⟨.other, 1, 8, [.nilFunc]⟩ := by kernel_rfl
theorem ti38 : tiOf Try.prog 38 = some ⟨.other, 1, 8, [.nilFunc]⟩ := by kernel_rfl
theorem ti39 : tiOf Try.prog 39 = some ⟨.int .i64, 1, 8, [.int .i64 0]⟩ := by kernel_rfl
theorem ti41 : tiOf Try.prog 41 = some ⟨.other, 1, 8, [.nilFunc]⟩ := by kernel_rfl
theorem ti43 : tiOf Try.prog 43 = some ⟨.other, 1, 8, [.nilFunc]⟩ := by kernel_rfl
theorem ti44 : tiOf Try.prog 44 = some ⟨.other, 1, 8, [.nilFunc]⟩ := by kernel_rfl
theorem ti45 : tiOf Try.prog 45 = some ⟨.slice 9, 1, 24, [.slice none 0 0]⟩ := by kernel_rfl
theorem ti46 : tiOf Try.prog 46 = some ⟨.other, 1, 8, [.nilFunc]⟩ := by kernel_rfl
theorem ti47 : tiOf Try.prog 47 = some ⟨.other, 1, 8, [.nilFunc]⟩ := by kernel_rfl
theorem ti48 : tiOf Try.prog 48 = some ⟨.other, 1, 8, [.nilFunc]⟩ := by kernel_rfl
theorem ti49 : tiOf Try.prog 49 = some ⟨.other, 1, 8, [.nilFunc]⟩ := by kernel_rfl
theorem ti50 : tiOf Try.prog 50 = some ⟨.other, 1, 8, [.nilFunc]⟩ := by kernel_rfl
theorem ti51 : tiOf Try.prog 51 = some ⟨.struct [(0, 1), (1, 1), (2, 1)], 3, 32, [.string ⟨#[]⟩, .int .i64 0, .int .i64 0]⟩ := by kernel_rfl
theorem ti52 : tiOf Try.prog 52 = some ⟨.struct [(0, 1), (1, 1), (2, 1)], 3, 32, [.string ⟨#[]⟩, .int .i64 0, .int .i64 0]⟩ := by kernel_rfl
theorem ti54 : tiOf Try.prog 54 = some ⟨.other, 1, 8, [.nilFunc]⟩ := by kernel_rfl
theorem ti56 : tiOf Try.prog 56 = some ⟨.other, 1, 8, [.nilFunc]⟩ := by kernel_rfl
theorem ti57 : tiOf Try.prog 57 = some ⟨.other, 1, 8, [.nilFunc]⟩ := by kernel_rfl
theorem ti59 : tiOf Try.prog 59 = some ⟨.other, 1, 8, [.nilFunc]⟩ := by kernel_rfl
theorem ti60 : tiOf Try.prog 60 = some ⟨.other, 1, 8, [.nilFunc]⟩ := by kernel_rfl
theorem ti61 : tiOf Try.prog 61 = some ⟨.other, 1, 8, [.nilFunc]⟩ := by kernel_rfl
theorem ti63 : tiOf Try.prog 63 = some ⟨.other, 1, 8, [.nilFunc]⟩ := by kernel_rfl
theorem ti65 : tiOf Try.prog 65 = some ⟨.other, 1, 8, [.nilFunc]⟩ := by kernel_rfl
theorem ti66 : tiOf Try.prog 66 = some ⟨.other, 1, 8, [.nilFunc]⟩ := by kernel_rfl
theorem ti67 : tiOf Try.prog 67 = some ⟨.other, 1, 8, [.nilFunc]⟩ := by kernel_rfl
theorem ti68 : tiOf Try.prog 68 = some ⟨.other, 1, 8, [.nilFunc]⟩ := by kernel_rfl
theorem ti69 : tiOf Try.prog 69 = some ⟨.other, 1, 8, [.nilFunc]⟩ := by kernel_rfl
theorem ti70 : tiOf Try.prog 70 = some ⟨.other, 1, 8, [.nilFunc]⟩ := by kernel_rfl
theorem ti71 : tiOf Try.prog 71 = some ⟨.other, 1, 8, [.nilFunc]⟩ := by kernel_rfl
theorem ti72 : tiOf Try.prog 72 = some ⟨.other, 1, 8, [.nilFunc]⟩ := by kernel_rfl
theorem ti74 : tiOf Try.prog 74 = some ⟨.other, 1, 8, [.nilFunc]⟩ := by kernel_rfl
theorem ti75 : tiOf Try.prog 75 = some ⟨.other, 1, 8, [.nilFunc]⟩ := by kernel_rfl
theorem ti76 : tiOf Try.prog 76 = some ⟨.other, 1, 8, [.nilFunc]⟩ := by kernel_rfl
theorem ti78 : tiOf Try.prog 78 = some ⟨.other, 1, 8, [.nilFunc]⟩ := by kernel_rfl
theorem ti79 : tiOf Try.prog 79 = some ⟨.other, 1, 8, [.nilFunc]⟩ := by kernel_rfl
theorem ti80 : tiOf Try.prog 80 = some ⟨.other, 1, 8, [.nilFunc]⟩ := by kernel_rfl
theorem ti81 : tiOf Try.prog 81 = some ⟨.other, 1, 8, [.nilFunc]⟩ := by kernel_rfl
theorem ti82 : tiOf Try.prog 82 = some ⟨.other, 1, 8, [.nilFunc]⟩ := by kernel_rfl
theorem ti83 : tiOf Try.prog 83 = some ⟨.other, 1, 8, [.nilFunc]⟩ := by kernel_rfl
theorem ti84 : tiOf Try.prog 84 = some ⟨.other, 1, 8, [.nilFunc]⟩ := by kernel_rfl
theorem ti85 : tiOf Try.prog 85 = some ⟨.other, 1, 8, [.nilFunc]⟩ := by kernel_rfl
theorem ti86 : tiOf Try.prog 86 = some ⟨.other, 1, 8, [.nilFunc]⟩ := by kernel_rfl
theorem ti87 : tiOf Try.prog 87 = some ⟨.other, 1, 8, [.nilFunc]⟩ := by kernel_rfl
theorem ti88 : tiOf Try.prog 88 = some ⟨.other, 1, 8, [.nilFunc]⟩ := by kernel_rfl
theorem ti89 : tiOf Try.prog 89 = some ⟨.other, 1, 8, [.nilFunc]⟩ := by kernel_rfl
theorem ti90 : tiOf Try.prog 90 = some ⟨.other, 1, 8, [.nilFunc]⟩ := by kernel_rfl
theorem ti91 : tiOf Try.prog 91 = some ⟨.other, 1, 8, [.nilFunc]⟩ := by kernel_rfl
theorem ti92 : tiOf Try.prog 92 = some ⟨.other, 1, 8, [.nilFunc]⟩ := by kernel_rfl
theorem ti93 : tiOf Try.prog 93 = some ⟨.other, 1, 8, [.nilFunc]⟩ := by kernel_rfl
theorem ti94 : tiOf Try.prog 94 = some ⟨.other, 1, 8, [.nilFunc]⟩ := by kernel_rfl
theorem ti95 : tiOf Try.prog 95 = some ⟨.struct [(0, 1), (1, 1), (2, 1)], 3, 24, [.int .i64 0, .int .i64 0, .int .i64 0]⟩ := by kernel_rfl
theorem ti96 : tiOf Try.prog 96 = some ⟨.struct [(0, 1), (1, 1), (2, 1)], 3, 24, [.int .i64 0, .int .i64 0, .int .i64 0]⟩ := by kernel_rfl
theorem ti97 : tiOf Try.prog 97 = some ⟨.struct [(0, 1), (1, 1), (2, 1), (3, 1)], 4, 32, [.int .i64 0, .int .i64 0, .int .i64 0, .bool false]⟩ := by kernel_rfl
theorem ti98 : tiOf Try.prog 98 = some ⟨.struct [(0, 1), (1, 1), (2, 1), (3, 1)], 4, 32, [.int .i64 0, .int .i64 0, .int .i64 0, .bool false]⟩ := by kernel_rfl
theorem ti99 : tiOf Try.prog 99 = some ⟨.other, 1, 8, [.nilFunc]⟩ := by kernel_rfl
theorem ti100 : tiOf Try.prog 100 = some ⟨.struct [(0, 1), (1, 1), (2, 1), (3, 1), (4, 1), (5, 1)], 6, 48, [.int .i64 0, .int .i64 0, .int .i64 0, .int .i64 0, .int .i64 0, .int .i64 0]⟩ := by kernel_rfl
theorem ti101 : tiOf Try.prog 101 = some ⟨.struct [(0, 1), (1, 1), (2, 1), (3, 1), (4, 1), (5, 1)], 6, 48, [.int .i64 0, .int .i64 0, .int .i64 0, .int .i64 0, .int .i64 0, .int .i64 0]⟩ := by kernel_rfl
theorem ti102 : tiOf Try.prog 102 = some ⟨.other, 1, 8, [.nilFunc]⟩ := by kernel_rfl
theorem ti103 : tiOf Try.prog 103 = some ⟨.other, 1, 8, [.nilFunc]⟩ := by kernel_rfl
theorem ti104 : tiOf Try.prog 104 = some ⟨.other, 1, 8, [.nilFunc]⟩ := by kernel_rfl
theorem ti106 : tiOf Try.prog 106 = some ⟨.other, 1, 8, [.nilFunc]⟩ := by kernel_rfl
theorem ti108 : tiOf Try.prog 108 = some ⟨.other, 1, 8, [.nilFunc]⟩ := by kernel_rfl
theorem ti110 : tiOf Try.prog 110 = some ⟨.other, 1, 8, [.nilFunc]⟩ := by kernel_rfl
theorem ti112 : tiOf Try.prog 112 = some ⟨.other, 1, 8, [.nilFunc]⟩ := by kernel_rfl
theorem ti113 : tiOf Try.prog 113 = some ⟨.other, 1, 8, [.nilFunc]⟩ := by kernel_rfl
theorem ti114 : tiOf Try.prog 114 = some ⟨.other, 1, 8, [.nilFunc]⟩ := by kernel_rfl
theorem ti115 : tiOf Try.prog 115 = some ⟨.other, 1, 8, [.nilFunc]⟩ := by kernel_rfl
theorem ti116 : tiOf Try.prog 116 = some ⟨.other, 1, 8, [.nilFunc]⟩ := by kernel_rfl
theorem ti117 : tiOf Try.prog 117 = some ⟨.struct [(0, 1), (1, 1)], 2, 32, [.int .i64 0, .slice none 0 0]⟩ := by kernel_rfl
theorem ti118 : tiOf Try.prog 118 = some ⟨.struct [(0, 1), (1, 1)], 2, 32, [.int .i64 0, .slice none 0 0]⟩ := by kernel_rfl
theorem ti119 : tiOf Try.prog 119 = some ⟨.other, 1, 8, [.nilFunc]⟩ := by kernel_rfl
theorem ti120 : tiOf Try.prog 120 = some ⟨.other, 1, 8, [.nilFunc]⟩ := by kernel_rfl
theorem ti121 : tiOf Try.prog 121 = some ⟨.other, 1, 8, [.nilFunc]⟩ := by kernel_rfl
theorem ti122 : tiOf Try.prog 122 = some ⟨.other, 1, 8, [.nilFunc]⟩ := by kernel_rfl
theorem ti123 : tiOf Try.prog 123 = some ⟨.other, 1, 8, [.nilFunc]⟩ := by kernel_rfl
theorem ti124 : tiOf Try.prog 124 = some ⟨.other, 1, 8, [.nilFunc]⟩ := by kernel_rfl
theorem ti125 : tiOf Try.prog 125 = some ⟨.map 9 3, 1, 8, [.map none]⟩ := by kernel_rfl
theorem ti126 : tiOf Try.prog 126 = some ⟨.other, 1, 8, [.nilFunc]⟩ := by kernel_rfl
theorem ti127 : tiOf Try.prog 127 = some ⟨.other, 1, 8, [.nilFunc]⟩ := by kernel_rfl
theorem ti128 : tiOf Try.prog 128 = some ⟨.other, 1, 8, [.nilFunc]⟩ := by kernel_rfl
theorem ti129 : tiOf Try.prog 129 = some ⟨.other, 1, 8, [.nilFunc]⟩ := by kernel_rfl
theorem ti130 : tiOf Try.prog 130 = some ⟨.other, 1, 8, [.nilFunc]⟩ := by kernel_rfl
theorem ti131 : tiOf Try.prog 131 = some ⟨.other, 1, 8, [.nilFunc]⟩ := by kernel_rfl
theorem ti132 : tiOf Try.prog 132 = some ⟨.other, 1, 8, [.nilFunc]⟩ := by kernel_rfl
theorem ti133 : tiOf Try.prog 133 = some ⟨.other, 1, 8, [.nilFunc]⟩ := by kernel_rfl
theorem ti134 : tiOf Try.prog 134 = some ⟨.other, 1, 8, [.nilFunc]⟩ := by kernel_rfl
theorem ti135 : tiOf Try.prog 135 = some ⟨.int .u64, 1, 8, [.int .u64 0]⟩ := by kernel_rfl
theorem ti136 : tiOf Try.prog 136 = some ⟨.other, 1, 8, [.nilFunc]⟩ := by kernel_rfl
theorem ti137 : tiOf Try.prog 137 = some ⟨.other, 1, 8, [.nilFunc]⟩ := by kernel_rfl
theorem ti138 : tiOf Try.prog 138 = some ⟨.array 8 5, 8, 8, [.int .u8 0, .int .u8 0, .int .u8 0, .int .u8 0, .int .u8 0, .int .u8 0, .int .u8 0, .int .u8 0]⟩ := by kernel_rfl
theorem ti139 : tiOf Try.prog 139 = some ⟨.array 4 45, 4, 96, [.slice none 0 0, .slice none 0 0, .slice none 0 0, .slice none 0 0]⟩ := by kernel_rfl
theorem ti140 : tiOf Try.prog 140 = some ⟨.other, 1, 8, [.nilFunc]⟩ := by kernel_rfl
theorem ti141 : tiOf Try.prog 141 = some ⟨.struct [(0, 1), (1, 1), (2, 1), (3, 1)], 4, 40, [.pointer none, .pointer none, .pointer none, .string ⟨#[]⟩]⟩ := by kernel_rfl
theorem ti142 : tiOf Try.prog 142 = some ⟨.struct [(0, 1), (1, 1), (2, 1), (3, 1)], 4, 40, [.pointer none, .pointer none, .pointer none, .string ⟨#[]⟩]⟩ := by kernel_rfl
theorem ti143 : tiOf Try.prog 143 = some ⟨.array 0 16, 0, 0, []⟩ := by kernel_rfl
theorem ti144 : tiOf Try.prog 144 = some ⟨.struct [(0, 0)], 0, 0, []⟩ := by kernel_rfl
theorem ti145 : tiOf Try.prog 145 = some ⟨.struct [(0, 0)], 0, 0, []⟩ := by kernel_rfl
theorem ti146 : tiOf Try.prog 146 = some ⟨.int .u32, 1, 4, [.int .u32 0]⟩ := by kernel_rfl
theorem ti147 : tiOf Try.prog 147 = some ⟨.int .u8, 1, 1, [.int .u8 0]⟩ := by kernel_rfl
theorem ti148 : tiOf Try.prog 148 = some ⟨.int .u8, 1, 1, [.int .u8 0]⟩ := by kernel_rfl
theorem ti149 : tiOf Try.prog 149 = some ⟨.other, 1, 8, [.nilFunc]⟩ := by kernel_rfl
theorem ti150 : tiOf Try.prog 150 = some ⟨.pointer 5, 1, 8, [.pointer none]⟩ := by kernel_rfl
theorem ti151 : tiOf Try.prog 151 = some ⟨.int .i32, 1, 4, [.int .i32 0]⟩ := by kernel_rfl
theorem ti152 : tiOf Try.prog 152 = some ⟨.int .i32, 1, 4, [.int .i32 0]⟩ := by kernel_rfl
theorem ti153 : tiOf Try.prog 153 = some ⟨.struct [(0, 1), (1, 1), (2, 1), (3, 1), (4, 1), (5, 1), (6, 1), (7, 1), (8, 1), (9, 1), (10, 1)], 11, 48, [.int .u64 0, .int .u64 0, .int .u32 0, .int .u8 0, .int .u8 0, .int .u8 0, .int .u8 0, .nilFunc, .pointer none, .int .i32 0, .int .i32 0]⟩ := by kernel_rfl
theorem ti154 : tiOf Try.prog 154 = some ⟨.struct [(0, 1), (1, 1), (2, 1), (3, 1), (4, 1), (5, 1), (6, 1), (7, 1), (8, 1), (9, 1), (10, 1)], 11, 48, [.int .u64 0, .int .u64 0, .int .u32 0, .int .u8 0, .int .u8 0, .int .u8 0, .int .u8 0, .nilFunc, .pointer none, .int .i32 0, .int .i32 0]⟩ := by kernel_rfl
def ttL : List (Nat × TI) := [
  (1, ⟨.other, 1, 8, [.nilFunc]⟩),
  (2, ⟨.int .i64, 1, 8, [.int .i64 0]⟩),
  (3, ⟨.int .i64, 1, 8, [.int .i64 0]⟩),
  (4, ⟨.bool, 1, 1, [.bool false]⟩),
  (5, ⟨.int .u8, 1, 1, [.int .u8 0]⟩),
  (6, ⟨.int .u8, 1, 1, [.int .u8 0]⟩),
  (7, ⟨.struct [(0, 1), (1, 1), (2, 1), (3, 1)], 4, 24, [.int .i64 0, .int .i64 0, .bool false, .int .u8 0]⟩),
  (8, ⟨.struct [(0, 1), (1, 1), (2, 1), (3, 1)], 4, 24, [.int .i64 0, .int .i64 0, .bool false, .int .u8 0]⟩),
  (9, ⟨.str, 1, 16, [.string ⟨#[]⟩]⟩),
  (10, ⟨.str, 1, 16, [.string ⟨#[]⟩]⟩),
  (11, ⟨.str, 1, 16, [.string ⟨#[]⟩]⟩),
  (12, ⟨.int .u64, 1, 8, [.int .u64 0]⟩),
  (13, ⟨.struct [(0, 1), (1, 1)], 2, 24, [.string ⟨#[]⟩, .int .u64 0]⟩),
  (14, ⟨.struct [(0, 1), (1, 1)], 2, 24, [.string ⟨#[]⟩, .int .u64 0]⟩),
  (15, ⟨.pointer 142, 1, 8, [.pointer none]⟩),
  (16, ⟨.pointer 145, 1, 8, [.pointer none]⟩),
  (17, ⟨.pointer 154, 1, 8, [.pointer none]⟩),
  (18, ⟨.struct [(0, 1)], 1, 8, [.pointer none]⟩),
  (19, ⟨.struct [(0, 1)], 1, 8, [.pointer none]⟩),
  (21, ⟨.int .i32, 1, 4, [.int .i32 0]⟩),
  (22, ⟨.struct [(0, 1), (1, 1), (2, 1), (3, 1), (4, 1)], 5, 40, [.int .i64 0, .int .i64 0, .int .i64 0, .int .i64 0, .int .i64 0]⟩),
  (23, ⟨.struct [(0, 1), (1, 1), (2, 1), (3, 1), (4, 1)], 5, 40, [.int .i64 0, .int .i64 0, .int .i64 0, .int .i64 0, .int .i64 0]⟩),
  (24, ⟨.slice 5, 1, 24, [.slice none 0 0]⟩),
  (25, ⟨.slice 118, 1, 24, [.slice none 0 0]⟩),
  (26, ⟨.struct [(0, 1), (1, 1)], 2, 48, [.slice none 0 0, .slice none 0 0]⟩),
  (27, ⟨.struct [(0, 1), (1, 1)], 2, 48, [.slice none 0 0, .slice none 0 0]⟩),
  (28, ⟨.slice 3, 1, 24, [.slice none 0 0]⟩),
  (29, ⟨.slice 96, 1, 24, [.slice none 0 0]⟩),
  (30, ⟨.slice 52, 1, 24, [.slice none 0 0]⟩),
  (31, ⟨.struct [(0, 1), (1, 1)], 2, 32, [.slice none 0 0, .bool false]⟩),
  (32, ⟨.struct [(0, 1), (1, 1)], 2, 32, [.slice none 0 0, .bool false]⟩),
  (33, ⟨.slice 101, 1, 24, [.slice none 0 0]⟩),
  (34, ⟨.slice 98, 1, 24, [.slice none 0 0]⟩),
  (35, ⟨.struct [(0, 5), (5, 2), (7, 1), (8, 1), (9, 1), (10, 1), (11, 1), (12, 1), (13, 1), (14, 2), (16, 1), (17, 1), (18, 1), (19, 1), (20, 1), (21, 1), (22, 1)], 23, 344, [.int .i64 0, .int .i64 0, .int .i64 0, .int .i64 0, .int .i64 0, .slice none 0 0, .slice none 0 0, .int .i64 0, .slice none 0 0, .slice none 0 0, .slice none 0 0, .slice none 0 0, .int .i64 0, .slice none 0 0, .slice none 0 0, .bool false, .slice none 0 0, .int .i64 0, .int .i64 0, .int .i64 0, .int .i64 0, .int .i64 0, .slice none 0 0]⟩),
  (36, ⟨.struct [(0, 5), (5, 2), (7, 1), (8, 1), (9, 1), (10, 1), (11, 1), (12, 1), (13, 1), (14, 2), (16, 1), (17, 1), (18, 1), (19, 1), (20, 1), (21, 1), (22, 1)], 23, 344, [.int .i64 0, .int .i64 0, .int .i64 0, .int .i64 0, .int .i64 0, .slice none 0 0, .slice none 0 0, .int .i64 0, .slice none 0 0, .slice none 0 0, .slice none 0 0, .slice none 0 0, .int .i64 0, .slice none 0 0, .slice none 0 0, .bool false, .slice none 0 0, .int .i64 0, .int .i64 0, .int .i64 0, .int .i64 0, .int .i64 0, .slice none 0 0]⟩),
  (37, ⟨.other, 1, 8, [.nilFunc]⟩),
  (38, ⟨.other, 1, 8, [.nilFunc]⟩),
  (39, ⟨.int .i64, 1, 8, [.int .i64 0]⟩),
  (41, ⟨.other, 1, 8, [.nilFunc]⟩),
  (43, ⟨.other, 1, 8, [.nilFunc]⟩),
  (44, ⟨.other, 1, 8, [.nilFunc]⟩),
  (45, ⟨.slice 9, 1, 24, [.slice none 0 0]⟩),
  (46, ⟨.other, 1, 8, [.nilFunc]⟩),
  (47, ⟨.other, 1, 8, [.nilFunc]⟩),
  (48, ⟨.other, 1, 8, [.nilFunc]⟩),
  (49, ⟨.other, 1, 8, [.nilFunc]⟩),
  (50, ⟨.other, 1, 8, [.nilFunc]⟩),
  (51, ⟨.struct [(0, 1), (1, 1), (2, 1)], 3, 32, [.string ⟨#[]⟩, .int .i64 0, .int .i64 0]⟩),
  (52, ⟨.struct [(0, 1), (1, 1), (2, 1)], 3, 32, [.string ⟨#[]⟩, .int .i64 0, .int .i64 0]⟩),
  (54, ⟨.other, 1, 8, [.nilFunc]⟩),
  (56, ⟨.other, 1, 8, [.nilFunc]⟩),
  (57, ⟨.other, 1, 8, [.nilFunc]⟩),
  (59, ⟨.other, 1, 8, [.nilFunc]⟩),
  (60, ⟨.other, 1, 8, [.nilFunc]⟩),
  (61, ⟨.other, 1, 8, [.nilFunc]⟩),
  (63, ⟨.other, 1, 8, [.nilFunc]⟩),
  (65, ⟨.other, 1, 8, [.nilFunc]⟩),
  (66, ⟨.other, 1, 8, [.nilFunc]⟩),
  (67, ⟨.other, 1, 8, [.nilFunc]⟩),
  (68, ⟨.other, 1, 8, [.nilFunc]⟩),
  (69, ⟨.other, 1, 8, [.nilFunc]⟩),
  (70, ⟨.other, 1, 8, [.nilFunc]⟩),
  (71, ⟨.other, 1, 8, [.nilFunc]⟩),
  (72, ⟨.other, 1, 8, [.nilFunc]⟩),
  (74, ⟨.other, 1, 8, [.nilFunc]⟩),
  (75, ⟨.other, 1, 8, [.nilFunc]⟩),
  (76, ⟨.other, 1, 8, [.nilFunc]⟩),
  (78, ⟨.other, 1, 8, [.nilFunc]⟩),
  (79, ⟨.other, 1, 8, [.nilFunc]⟩),
  (80, ⟨.other, 1, 8, [.nilFunc]⟩),
  (81, ⟨.other, 1, 8, [.nilFunc]⟩),
  (82, ⟨.other, 1, 8, [.nilFunc]⟩),
  (83, ⟨.other, 1, 8, [.nilFunc]⟩),
  (84, ⟨.other, 1, 8, [.nilFunc]⟩),
  (85, ⟨.other, 1, 8, [.nilFunc]⟩),
  (86, ⟨.other, 1, 8, [.nilFunc]⟩),
  (87, ⟨.other, 1, 8, [.nilFunc]⟩),
  (88, ⟨.other, 1, 8, [.nilFunc]⟩),
  (89, ⟨.other, 1, 8, [.nilFunc]⟩),
  (90, ⟨.other, 1, 8, [.nilFunc]⟩),
  (91, ⟨.other, 1, 8, [.nilFunc]⟩),
  (92, ⟨.other, 1, 8, [.nilFunc]⟩),
  (93, ⟨.other, 1, 8, [.nilFunc]⟩),
  (94, ⟨.other, 1, 8, [.nilFunc]⟩),
  (95, ⟨.struct [(0, 1), (1, 1), (2, 1)], 3, 24, [.int .i64 0, .int .i64 0, .int .i64 0]⟩),
  (96, ⟨.struct [(0, 1), (1, 1), (2, 1)], 3, 24, [.int .i64 0, .int .i64 0, .int .i64 0]⟩),
  (97, ⟨.struct [(0, 1), (1, 1), (2, 1), (3, 1)], 4, 32, [.int .i64 0, .int .i64 0, .int .i64 0, .bool false]⟩),
  (98, ⟨.struct [(0, 1), (1, 1), (2, 1), (3, 1)], 4, 32, [.int .i64 0, .int .i64 0, .int .i64 0, .bool false]⟩),
  (99, ⟨.other, 1, 8, [.nilFunc]⟩),
  (100, ⟨.struct [(0, 1), (1, 1), (2, 1), (3, 1), (4, 1), (5, 1)], 6, 48, [.int .i64 0, .int .i64 0, .int .i64 0, .int .i64 0, .int .i64 0, .int .i64 0]⟩),
  (101, ⟨.struct [(0, 1), (1, 1), (2, 1), (3, 1), (4, 1), (5, 1)], 6, 48, [.int .i64 0, .int .i64 0, .int .i64 0, .int .i64 0, .int .i64 0, .int .i64 0]⟩),
  (102, ⟨.other, 1, 8, [.nilFunc]⟩),
  (103, ⟨.other, 1, 8, [.nilFunc]⟩),
  (104, ⟨.other, 1, 8, [.nilFunc]⟩),
  (106, ⟨.other, 1, 8, [.nilFunc]⟩),
  (108, ⟨.other, 1, 8, [.nilFunc]⟩),
  (110, ⟨.other, 1, 8, [.nilFunc]⟩),
  (112, ⟨.other, 1, 8, [.nilFunc]⟩),
  (113, ⟨.other, 1, 8, [.nilFunc]⟩),
  (114, ⟨.other, 1, 8, [.nilFunc]⟩),
  (115, ⟨.other, 1, 8, [.nilFunc]⟩),
  (116, ⟨.other, 1, 8, [.nilFunc]⟩),
  (117, ⟨.struct [(0, 1), (1, 1)], 2, 32, [.int .i64 0, .slice none 0 0]⟩),
  (118, ⟨.struct [(0, 1), (1, 1)], 2, 32, [.int .i64 0, .slice none 0 0]⟩),
  (119, ⟨.other, 1, 8, [.nilFunc]⟩),
  (120, ⟨.other, 1, 8, [.nilFunc]⟩),
  (121, ⟨.other, 1, 8, [.nilFunc]⟩),
  (122, ⟨.other, 1, 8, [.nilFunc]⟩),
  (123, ⟨.other, 1, 8, [.nilFunc]⟩),
  (124, ⟨.other, 1, 8, [.nilFunc]⟩),
  (125, ⟨.map 9 3, 1, 8, [.map none]⟩),
  (126, ⟨.other, 1, 8, [.nilFunc]⟩),
  (127, ⟨.other, 1, 8, [.nilFunc]⟩),
  (128, ⟨.other, 1, 8, [.nilFunc]⟩),
  (129, ⟨.other, 1, 8, [.nilFunc]⟩),
  (130, ⟨.other, 1, 8, [.nilFunc]⟩),
  (131, ⟨.other, 1, 8, [.nilFunc]⟩),
  (132, ⟨.other, 1, 8, [.nilFunc]⟩),
  (133, ⟨.other, 1, 8, [.nilFunc]⟩),
  (134, ⟨.other, 1, 8, [.nilFunc]⟩),
  (135, ⟨.int .u64, 1, 8, [.int .u64 0]⟩),
  (136, ⟨.other, 1, 8, [.nilFunc]⟩),
  (137, ⟨.other, 1, 8, [.nilFunc]⟩),
  (138, ⟨.array 8 5, 8, 8, [.int .u8 0, .int .u8 0, .int .u8 0, .int .u8 0, .int .u8 0, .int .u8 0, .int .u8 0, .int .u8 0]⟩),
  (139, ⟨.array 4 45, 4, 96, [.slice none 0 0, .slice none 0 0, .slice none 0 0, .slice none 0 0]⟩),
  (140, ⟨.other, 1, 8, [.nilFunc]⟩),
  (141, ⟨.struct [(0, 1), (1, 1), (2, 1), (3, 1)], 4, 40, [.pointer none, .pointer none, .pointer none, .string ⟨#[]⟩]⟩),
  (142, ⟨.struct [(0, 1), (1, 1), (2, 1), (3, 1)], 4, 40, [.pointer none, .pointer none, .pointer none, .string ⟨#[]⟩]⟩),
  (143, ⟨.array 0 16, 0, 0, []⟩),
  (144, ⟨.struct [(0, 0)], 0, 0, []⟩),
  (145, ⟨.struct [(0, 0)], 0, 0, []⟩),
  (146, ⟨.int .u32, 1, 4, [.int .u32 0]⟩),
  (147, ⟨.int .u8, 1, 1, [.int .u8 0]⟩),
  (148, ⟨.int .u8, 1, 1, [.int .u8 0]⟩),
  (149, ⟨.other, 1, 8, [.nilFunc]⟩),
  (150, ⟨.pointer 5, 1, 8, [.pointer none]⟩),
  (151, ⟨.int .i32, 1, 4, [.int .i32 0]⟩),
  (152, ⟨.int .i32, 1, 4, [.int .i32 0]⟩),
  (153, ⟨.struct [(0, 1), (1, 1), (2, 1), (3, 1), (4, 1), (5, 1), (6, 1), (7, 1), (8, 1), (9, 1), (10, 1)], 11, 48, [.int .u64 0, .int .u64 0, .int .u32 0, .int .u8 0, .int .u8 0, .int .u8 0, .int .u8 0, .nilFunc, .pointer none, .int .i32 0, .int .i32 0]⟩),
  (154, ⟨.struct [(0, 1), (1, 1), (2, 1), (3, 1), (4, 1), (5, 1), (6, 1), (7, 1), (8, 1), (9, 1), (10, 1)], 11, 48, [.int .u64 0, .int .u64 0, .int .u32 0, .int .u8 0, .int .u8 0, .int .u8 0, .int .u8 0, .nilFunc, .pointer none, .int .i32 0, .int .i32 0]⟩)]
def tt : Nat → Option TI := lkT ttL
theorem tok : ∀ t ti, tt t = some ti → tiOf Try.prog t = some ti := lkT_ok Try.prog ttL ⟨ti1, ti2, ti3, ti4, ti5, ti6, ti7, ti8, ti9, ti10, ti11, ti12, ti13, ti14, ti15, ti16, ti17, ti18, ti19, ti21, ti22, ti23, ti24, ti25, ti26, ti27, ti28, ti29, ti30, ti31, ti32, ti33, ti34, ti35, ti36, ti37, ti38, ti39, ti41, ti43, ti44, ti45, ti46, ti47, ti48, ti49, ti50, ti51, ti52, ti54, ti56, ti57, ti59, ti60, ti61, ti63, ti65, ti66, ti67, ti68, ti69, ti70, ti71, ti72, ti74, ti75, ti76, ti78, ti79, ti80, ti81, ti82, ti83, ti84, ti85, ti86, ti87, ti88, ti89, ti90, ti91, ti92, ti93, ti94, ti95, ti96, ti97, ti98, ti99, ti100, ti101, ti102, ti103, ti104, ti106, ti108, ti110, ti112, ti113, ti114, ti115, ti116, ti117, ti118, ti119, ti120, ti121, ti122, ti123, ti124, ti125, ti126, ti127, ti128, ti129, ti130, ti131, ti132, ti133, ti134, ti135, ti136, ti137, ti138, ti139, ti140, ti141, ti142, ti143, ti144, ti145, ti146, ti147, ti148, ti149, ti150, ti151, ti152, ti153, ti154, trivial⟩
theorem hmix : Try.prog.follows .mixedOrders = true := by kernel_rfl
end Go.Proofs.Ytgkjappmcgnabaa
