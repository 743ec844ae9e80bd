/- cT. -/
import Derived.Test.YtpkkplojpjakiaaW1
import Derived.Test.YtpkkplojpjakiaaW2
import Derived.Test.YtpkkplojpjakiaaW3
import Derived.Test.YtpkkplojpjakiaaW4
import Derived.Test.YtpkkplojpjakiaaProg
import Derived.KernelRfl
/- The table of types, as the walks use it. Printed by gent.py. -/
namespace Go.Proofs.Ytpkkplojpjakiaa
open Go
theorem ti1 : tiOf Try.prog 1 = some ⟨.other, 1, 8, [.nilFunc]⟩ := by kernel_rfl
theorem ti2 : tiOf Try.prog 2 = some ⟨.int .i64, 1, 8, [.int .i64 0]⟩ := by kernel_rfl
theorem ti3 : tiOf Try.prog 3 = some ⟨.int .i64, 1, 8, [.int .i64 0]⟩ := by kernel_rfl
theorem ti4 : tiOf Try.prog 4 = some ⟨.bool, 1, 1, [.bool false]⟩ := by kernel_rfl
theorem ti5 : tiOf Try.prog 5 = some ⟨.int .u8, 1, 1, [.int .u8 0]⟩ := by kernel_rfl
theorem ti6 : tiOf Try.prog 6 = some ⟨.int .u8, 1, 1, [.int .u8 0]⟩ := by kernel_rfl
theorem ti7 : tiOf Try.prog 7 = some ⟨.struct [(0, 1), (1, 1), (2, 1), (3, 1)], 4, 24, [.int .i64 0, .int .i64 0, .bool false, .int .u8 0]⟩ := by kernel_rfl
theorem ti8 : tiOf Try.prog 8 = some ⟨.struct [(0, 1), (1, 1), (2, 1), (3, 1)], 4, 24, [.int .i64 0, .int .i64 0, .bool false, .int .u8 0]⟩ := by kernel_rfl
theorem ti9 : tiOf Try.prog 9 = some ⟨.str, 1, 16, [.string ⟨#[]⟩]⟩ := by kernel_rfl
theorem ti10 : tiOf Try.prog 10 = some ⟨.str, 1, 16, [.string ⟨#[]⟩]⟩ := by kernel_rfl
theorem ti11 : tiOf Try.prog 11 = some ⟨.str, 1, 16, [.string ⟨#[]⟩]⟩ := by kernel_rfl
theorem ti12 : tiOf Try.prog 12 = some ⟨.int .u64, 1, 8, [.int .u64 0]⟩ := by kernel_rfl
theorem ti13 : tiOf Try.prog 13 = some ⟨.struct [(0, 1), (1, 1)], 2, 24, [.string ⟨#[]⟩, .int .u64 0]⟩ := by kernel_rfl
theorem ti14 : tiOf Try.prog 14 = some ⟨.struct [(0, 1), (1, 1)], 2, 24, [.string ⟨#[]⟩, .int .u64 0]⟩ := by kernel_rfl
theorem ti15 : tiOf Try.prog 15 = some ⟨.pointer 154, 1, 8, [.pointer none]⟩ := by kernel_rfl
theorem ti16 : tiOf Try.prog 16 = some ⟨.pointer 157, 1, 8, [.pointer none]⟩ := by kernel_rfl
theorem ti17 : tiOf Try.prog 17 = some ⟨.pointer 166, 1, 8, [.pointer none]⟩ := by kernel_rfl
theorem ti18 : tiOf Try.prog 18 = some ⟨.struct [(0, 1)], 1, 8, [.pointer none]⟩ := by kernel_rfl
theorem ti19 : tiOf Try.prog 19 = some ⟨.struct [(0, 1)], 1, 8, [.pointer none]⟩ := by kernel_rfl
theorem ti21 : tiOf Try.prog 21 = some ⟨.int .i32, 1, 4, [.int .i32 0]⟩ := by kernel_rfl
theorem ti22 : tiOf Try.prog 22 = some ⟨.struct [(0, 1), (1, 1), (2, 1), (3, 1), (4, 1)], 5, 40, [.int .i64 0, .int .i64 0, .int .i64 0, .int .i64 0, .int .i64 0]⟩ := by kernel_rfl
theorem ti23 : tiOf Try.prog 23 = some ⟨.struct [(0, 1), (1, 1), (2, 1), (3, 1), (4, 1)], 5, 40, [.int .i64 0, .int .i64 0, .int .i64 0, .int .i64 0, .int .i64 0]⟩ := by kernel_rfl
theorem ti24 : tiOf Try.prog 24 = some ⟨.slice 5, 1, 24, [.slice none 0 0]⟩ := by kernel_rfl
theorem ti25 : tiOf Try.prog 25 = some ⟨.slice 128, 1, 24, [.slice none 0 0]⟩ := by kernel_rfl
theorem ti26 : tiOf Try.prog 26 = some ⟨.struct [(0, 1), (1, 1)], 2, 48, [.slice none 0 0, .slice none 0 0]⟩ := by kernel_rfl
theorem ti27 : tiOf Try.prog 27 = some ⟨.struct [(0, 1), (1, 1)], 2, 48, [.slice none 0 0, .slice none 0 0]⟩ := by kernel_rfl
theorem ti28 : tiOf Try.prog 28 = some ⟨.slice 3, 1, 24, [.slice none 0 0]⟩ := by kernel_rfl
theorem ti29 : tiOf Try.prog 29 = some ⟨.slice 110, 1, 24, [.slice none 0 0]⟩ := by kernel_rfl
theorem ti30 : tiOf Try.prog 30 = some ⟨.slice 130, 1, 24, [.slice none 0 0]⟩ := by kernel_rfl
theorem ti31 : tiOf Try.prog 31 = some ⟨.struct [(0, 1), (1, 1)], 2, 32, [.slice none 0 0, .bool false]⟩ := by kernel_rfl
theorem ti32 : tiOf Try.prog 32 = some ⟨.struct [(0, 1), (1, 1)], 2, 32, [.slice none 0 0, .bool false]⟩ := by kernel_rfl
theorem ti33 : tiOf Try.prog 33 = some ⟨.slice 132, 1, 24, [.slice none 0 0]⟩ := by kernel_rfl
theorem ti34 : tiOf Try.prog 34 = some ⟨.slice 112, 1, 24, [.slice none 0 0]⟩ := by kernel_rfl
theorem ti35 : tiOf Try.prog 35 = some ⟨.struct [(0, 5), (5, 2), (7, 1), (8, 1), (9, 1), (10, 1), (11, 1), (12, 1), (13, 1), (14, 2), (16, 1), (17, 1), (18, 1), (19, 1), (20, 1), (21, 1), (22, 1)], 23, 344, [.int .i64 0, .int .i64 0, .int .i64 0, .int .i64 0, .int .i64 0, .slice none 0 0, .slice none 0 0, .int .i64 0, .slice none 0 0, .slice none 0 0, .slice none 0 0, .slice none 0 0, .int .i64 0, .slice none 0 0, .slice none 0 0, .bool false, .slice none 0 0, .int .i64 0, .int .i64 0, .int .i64 0, .int .i64 0, .int .i64 0, .slice none 0 0]⟩ := by kernel_rfl
theorem ti36 : tiOf Try.prog 36 = some ⟨.struct [(0, 5), (5, 2), (7, 1), (8, 1), (9, 1), (10, 1), (11, 1), (12, 1), (13, 1), (14, 2), (16, 1), (17, 1), (18, 1), (19, 1), (20, 1), (21, 1), (22, 1)], 23, 344, [.int .i64 0, .int .i64 0, .int .i64 0, .int .i64 0, .int .i64 0, .slice none 0 0, .slice none 0 0, .int .i64 0, .slice none 0 0, .slice none 0 0, .slice none 0 0, .slice none 0 0, .int .i64 0, .slice none 0 0, .slice none 0 0, .bool false, .slice none 0 0, .int .i64 0, .int .i64 0, .int .i64 0, .int .i64 0, .int .i64 0, .slice none 0 0]⟩ := by kernel_rfl
theorem ti37 : tiOf Try.prog 37 = some ⟨.slice 66, 1, 24, [.slice none 0 0]⟩ := by kernel_rfl
theorem ti38 : tiOf Try.prog 38 = some ⟨.struct [(0, 23), (23, 1), (24, 1), (25, 1), (26, 1)], 27, 416, [.int .i64 0, .int .i64 0, .int .i64 0, .int .i64 0, .int .i64 0, .slice none 0 0, .slice none 0 0, .int .i64 0, .slice none 0 0, .slice none 0 0, .slice none 0 0, .slice none 0 0, .int .i64 0, .slice none 0 0, .slice none 0 0, .bool false, .slice none 0 0, .int .i64 0, .int .i64 0, .int .i64 0, .int .i64 0, .int .i64 0, .slice none 0 0, .slice none 0 0, .slice none 0 0, .int .i64 0, .string ⟨#[]⟩]⟩ := by kernel_rfl
theorem ti39 : tiOf Try.prog 39 = some ⟨.struct [(0, 23), (23, 1), (24, 1), (25, 1), (26, 1)], 27, 416, [.int .i64 0, .int .i64 0, .int .i64 0, .int .i64 0, .int .i64 0, .slice none 0 0, .slice none 0 0, .int .i64 0, .slice none 0 0, .slice none 0 0, .slice none 0 0, .slice none 0 0, .int .i64 0, .slice none 0 0, .slice none 0 0, .bool false, .slice none 0 0, .int .i64 0, .int .i64 0, .int .i64 0, .int .i64 0, .int .i64 0, .slice none 0 0, .slice none 0 0, .slice none 0 0, .int .i64 0, .string ⟨#[]⟩]⟩ := by kernel_rfl
theorem ti40 : tiOf Try.prog 40 = some ⟨.other, 1, 8, [.nilFunc]⟩ := by kernel_rfl
theorem ti41 : tiOf Try.prog 41 = some ⟨.other, 1, 8, [.nilFunc]⟩ := by kernel_rfl
theorem ti42 : tiOf Try.prog 42 = some ⟨.other, 1, 8, [.nilFunc]⟩ := by kernel_rfl
theorem ti43 : tiOf Try.prog 43 = some ⟨.other, 1, 8, [.nilFunc]⟩ := by kernel_rfl
theorem ti44 : tiOf Try.prog 44 = some ⟨.slice 9, 1, 24, [.slice none 0 0]⟩ := by kernel_rfl
theorem ti45 : tiOf Try.prog 45 = some ⟨.other, 1, 8, [.nilFunc]⟩ := by kernel_rfl
theorem ti46 : tiOf Try.prog 46 = some ⟨.other, 1, 8, [.nilFunc]⟩ := by kernel_rfl
theorem ti47 : tiOf Try.prog 47 = some ⟨.int .i64, 1, 8, [.int .i64 0]⟩ := by kernel_rfl
theorem ti49 : tiOf Try.prog 49 = some ⟨.other, 1, 8, [.nilFunc]⟩ := by kernel_rfl
theorem ti51 : tiOf Try.prog 51 = some ⟨.other, 1, 8, [.nilFunc]⟩ := by kernel_rfl
theorem ti52 : tiOf Try.prog 52 = some ⟨.other, 1, 8, [.nilFunc]⟩ := by kernel_rfl
theorem ti53 : tiOf Try.prog 53 = some ⟨.other, 1, 8, [.nilFunc]⟩ := by kernel_rfl
theorem ti54 : tiOf Try.prog 54 = some ⟨.other, 1, 8, [.nilFunc]⟩ := by kernel_rfl
theorem ti55 : tiOf Try.prog 55 = some ⟨.other, 1, 8, [.nilFunc]⟩ := by kernel_rfl
theorem ti57 : tiOf Try.prog 57 = some ⟨.other, 1, 8, [.nilFunc]⟩ := by kernel_rfl
theorem ti59 : tiOf Try.prog 59 = some ⟨.other, 1, 8, [.nilFunc]⟩ := by kernel_rfl
theorem ti60 : tiOf Try.prog 60 = some ⟨.other, 1, 8, [.nilFunc]⟩ := by kernel_rfl
theorem ti61 : tiOf Try.prog 61 = some ⟨.struct [(0, 23), (23, 1), (24, 1), (25, 1)], 26, 392, [.int .i64 0, .int .i64 0, .int .i64 0, .int .i64 0, .int .i64 0, .slice none 0 0, .slice none 0 0, .int .i64 0, .slice none 0 0, .slice none 0 0, .slice none 0 0, .slice none 0 0, .int .i64 0, .slice none 0 0, .slice none 0 0, .bool false, .slice none 0 0, .int .i64 0, .int .i64 0, .int .i64 0, .int .i64 0, .int .i64 0, .slice none 0 0, .slice none 0 0, .int .u8 0, .string ⟨#[]⟩]⟩ := by kernel_rfl
theorem ti62 : tiOf Try.prog 62 = some ⟨.struct [(0, 23), (23, 1), (24, 1), (25, 1)], 26, 392, [.int .i64 0, .int .i64 0, .int .i64 0, .int .i64 0, .int .i64 0, .slice none 0 0, .slice none 0 0, .int .i64 0, .slice none 0 0, .slice none 0 0, .slice none 0 0, .slice none 0 0, .int .i64 0, .slice none 0 0, .slice none 0 0, .bool false, .slice none 0 0, .int .i64 0, .int .i64 0, .int .i64 0, .int .i64 0, .int .i64 0, .slice none 0 0, .slice none 0 0, .int .u8 0, .string ⟨#[]⟩]⟩ := by kernel_rfl
theorem ti63 : tiOf Try.prog 63 = some ⟨.other, 1, 8, [.nilFunc]⟩ := by kernel_rfl
theorem ti64 : tiOf Try.prog 64 = some ⟨.other, 1, 8, [.nilFunc]⟩ := by kernel_rfl
theorem ti65 : tiOf Try.prog 65 = some ⟨.struct [(0, 1), (1, 1), (2, 1)], 3, 40, [.int .i64 0, .int .i64 0, .slice none 0 0]⟩ := by kernel_rfl
theorem ti66 : tiOf Try.prog 66 = some ⟨.struct [(0, 1), (1, 1), (2, 1)], 3, 40, [.int .i64 0, .int .i64 0, .slice none 0 0]⟩ := by kernel_rfl
theorem ti68 : tiOf Try.prog 68 = some ⟨.other, 1, 8, [.nilFunc]⟩ := by kernel_rfl
theorem ti69 : tiOf Try.prog 69 = some ⟨.other, 1, 8, [.nilFunc]⟩ := by kernel_rfl
theorem ti70 : tiOf Try.prog 70 = some ⟨.other, 1, 8, [.nilFunc]⟩ := by kernel_rfl
theorem ti71 : tiOf Try.prog 71 = some ⟨.slice 44, 1, 24, [.slice none 0 0]⟩ := by kernel_rfl
theorem ti72 : tiOf Try.prog 72 = some ⟨.other, 1, 8, [.nilFunc]⟩ := by kernel_rfl
theorem ti73 : tiOf Try.prog 73 = some ⟨.other, 1, 8, [.nilFunc]⟩ := by kernel_rfl
theorem ti74 : tiOf Try.prog 74 = some ⟨.other, 1, 8, [.nilFunc]⟩ := by kernel_rfl
theorem ti75 : tiOf Try.prog 75 = some ⟨.other, 1, 8, [.nilFunc]⟩ := by kernel_rfl
theorem ti77 : tiOf Try.prog 77 = some ⟨.other, 1, 8, [.nilFunc]⟩ := by kernel_rfl
theorem ti79 : tiOf Try.prog 79 = some ⟨.other, 1, 8, [.nilFunc]⟩ := by kernel_rfl
theorem ti80 : tiOf Try.prog 80 = some ⟨.struct [(0, 23), (23, 1), (24, 1)], 25, 376, [.int .i64 0, .int .i64 0, .int .i64 0, .int .i64 0, .int .i64 0, .slice none 0 0, .slice none 0 0, .int .i64 0, .slice none 0 0, .slice none 0 0, .slice none 0 0, .slice none 0 0, .int .i64 0, .slice none 0 0, .slice none 0 0, .bool false, .slice none 0 0, .int .i64 0, .int .i64 0, .int .i64 0, .int .i64 0, .int .i64 0, .slice none 0 0, .slice none 0 0, .int .i64 0]⟩ := by kernel_rfl
theorem ti81 : tiOf Try.prog 81 = some ⟨.struct [(0, 23), (23, 1), (24, 1)], 25, 376, [.int .i64 0, .int .i64 0, .int .i64 0, .int .i64 0, .int .i64 0, .slice none 0 0, .slice none 0 0, .int .i64 0, .slice none 0 0, .slice none 0 0, .slice none 0 0, .slice none 0 0, .int .i64 0, .slice none 0 0, .slice none 0 0, .bool false, .slice none 0 0, .int .i64 0, .int .i64 0, .int .i64 0, .int .i64 0, .int .i64 0, .slice none 0 0, .slice none 0 0, .int .i64 0]⟩ := by kernel_rfl
theorem ti82 : tiOf Try.prog 82 = some ⟨.other, 1, 8, [.nilFunc]⟩ := by kernel_rfl
theorem ti83 : tiOf Try.prog 83 = some ⟨.other, 1, 8, [.nilFunc]⟩ := by kernel_rfl
theorem ti84 : tiOf Try.prog 84 = some ⟨.other, 1, 8, [.nilFunc]⟩ := by kernel_rfl
theorem ti85 : tiOf Try.prog 85 = some ⟨.other, 1, 8, [.nilFunc]⟩ := by kernel_rfl
theorem ti86 : tiOf Try.prog 86 = some ⟨.other, 1, 8, [.nilFunc]⟩ := by kernel_rfl
theorem ti87 : tiOf Try.prog 87 = some ⟨.other, 1, 8, [.nilFunc]⟩ := by kernel_rfl
theorem ti88 : tiOf Try.prog 88 = some ⟨.other, 1, 8, [.nilFunc]⟩ := by kernel_rfl
theorem ti89 : tiOf Try.prog 89 = some ⟨.other, 1, 8, [.nilFunc]⟩ := by kernel_rfl
theorem ti90 : tiOf Try.prog 90 = some ⟨.other, 1, 8, [.nilFunc]⟩ := by kernel_rfl
theorem ti91 : tiOf Try.prog 91 = some ⟨.other, 1, 8, [.nilFunc]⟩ := by kernel_rfl
theorem ti92 : tiOf Try.prog 92 = some ⟨.other, 1, 8, [.nilFunc]⟩ := by kernel_rfl
theorem ti93 : tiOf Try.prog 93 = some ⟨.other, 1, 8, [.nilFunc]⟩ := by kernel_rfl
theorem ti94 : tiOf Try.prog 94 = some ⟨.other, 1, 8, [.nilFunc]⟩ := by kernel_rfl
theorem ti95 : tiOf Try.prog 95 = some ⟨.other, 1, 8, [.nilFunc]⟩ := by kernel_rfl
theorem ti96 : tiOf Try.prog 96 = some ⟨.other, 1, 8, [.nilFunc]⟩ := by kernel_rfl
theorem ti97 : tiOf Try.prog 97 = some ⟨.other, 1, 8, [.nilFunc]⟩ := by kernel_rfl
theorem ti99 : tiOf Try.prog 99 = some ⟨.map 9 97, 1, 8, [.map none]⟩ := by kernel_rfl
theorem ti100 : tiOf Try.prog 100 = some ⟨.other, 1, 8, [.nilFunc]⟩ := by kernel_rfl
theorem ti101 : tiOf Try.prog 101 = some ⟨.other, 1, 8, [.nilFunc]⟩ := by kernel_rfl
theorem ti102 : tiOf Try.prog 102 = some ⟨.pointer 81, 1, 8, [.pointer none]⟩ := by kernel_rfl
theorem ti103 : tiOf Try.prog 103 = some ⟨.other, 1, 8, [.nilFunc]⟩ := by kernel_rfl
theorem ti104 : tiOf Try.prog 104 = some ⟨.other, 1, 8, [.nilFunc]⟩ := by kernel_rfl
theorem ti105 : tiOf Try.prog 105 = some ⟨.other, 1, 8, [.nilFunc]⟩ := by kernel_rfl
theorem ti106 : tiOf Try.prog 106 = some ⟨.other, 1, 8, [.nilFunc]⟩ := by kernel_rfl
theorem ti107 : tiOf Try.prog 107 = some ⟨.other, 1, 8, [.nilFunc]⟩ := by kernel_rfl
theorem ti108 : tiOf Try.prog 108 = some ⟨.other, 1, 8, [.nilFunc]⟩ := by kernel_rfl
theorem ti109 : tiOf Try.prog 109 = some ⟨.struct [(0, 1), (1, 1), (2, 1)], 3, 24, [.int .i64 0, .int .i64 0, .int .i64 0]⟩ := by kernel_rfl
theorem ti110 : tiOf Try.prog 110 = some ⟨.struct [(0, 1), (1, 1), (2, 1)], 3, 24, [.int .i64 0, .int .i64 0, .int .i64 0]⟩ := by kernel_rfl
theorem ti111 : tiOf Try.prog 111 = some ⟨.struct [(0, 1), (1, 1), (2, 1), (3, 1)], 4, 32, [.int .i64 0, .int .i64 0, .int .i64 0, .bool false]⟩ := by kernel_rfl
theorem ti112 : tiOf Try.prog 112 = some ⟨.struct [(0, 1), (1, 1), (2, 1), (3, 1)], 4, 32, [.int .i64 0, .int .i64 0, .int .i64 0, .bool false]⟩ := by kernel_rfl
theorem ti113 : tiOf Try.prog 113 = some ⟨.other, 1, 8, [.nilFunc]⟩ := by kernel_rfl
theorem ti114 : tiOf Try.prog 114 = some ⟨.other, 1, 8, [.nilFunc]⟩ := by kernel_rfl
theorem ti115 : tiOf Try.prog 115 = some ⟨.other, 1, 8, [.nilFunc]⟩ := by kernel_rfl
theorem ti116 : tiOf Try.prog 116 = some ⟨.other, 1, 8, [.nilFunc]⟩ := by kernel_rfl
theorem ti117 : tiOf Try.prog 117 = some ⟨.other, 1, 8, [.nilFunc]⟩ := by kernel_rfl
theorem ti118 : tiOf Try.prog 118 = some ⟨.other, 1, 8, [.nilFunc]⟩ := by kernel_rfl
theorem ti119 : tiOf Try.prog 119 = some ⟨.other, 1, 8, [.nilFunc]⟩ := by kernel_rfl
theorem ti120 : tiOf Try.prog 120 = some ⟨.other, 1, 8, [.nilFunc]⟩ := by kernel_rfl
theorem ti121 : tiOf Try.prog 121 = some ⟨.struct [(0, 2), (2, 1)], 3, 56, [.slice none 0 0, .slice none 0 0, .int .i64 0]⟩ := by kernel_rfl
theorem ti122 : tiOf Try.prog 122 = some ⟨.struct [(0, 2), (2, 1)], 3, 56, [.slice none 0 0, .slice none 0 0, .int .i64 0]⟩ := by kernel_rfl
theorem ti124 : tiOf Try.prog 124 = some ⟨.other, 1, 8, [.nilFunc]⟩ := by kernel_rfl
theorem ti126 : tiOf Try.prog 126 = some ⟨.other, 1, 8, [.nilFunc]⟩ := by kernel_rfl
theorem ti127 : tiOf Try.prog 127 = some ⟨.struct [(0, 1), (1, 1)], 2, 32, [.int .i64 0, .slice none 0 0]⟩ := by kernel_rfl
theorem ti128 : tiOf Try.prog 128 = some ⟨.struct [(0, 1), (1, 1)], 2, 32, [.int .i64 0, .slice none 0 0]⟩ := by kernel_rfl
theorem ti129 : tiOf Try.prog 129 = some ⟨.struct [(0, 1), (1, 1), (2, 1)], 3, 32, [.string ⟨#[]⟩, .int .i64 0, .int .i64 0]⟩ := by kernel_rfl
theorem ti130 : tiOf Try.prog 130 = some ⟨.struct [(0, 1), (1, 1), (2, 1)], 3, 32, [.string ⟨#[]⟩, .int .i64 0, .int .i64 0]⟩ := by kernel_rfl
theorem ti131 : tiOf Try.prog 131 = some ⟨.struct [(0, 1), (1, 1), (2, 1), (3, 1), (4, 1), (5, 1)], 6, 48, [.int .i64 0, .int .i64 0, .int .i64 0, .int .i64 0, .int .i64 0, .int .i64 0]⟩ := by kernel_rfl
theorem ti132 : tiOf Try.prog 132 = some ⟨.struct [(0, 1), (1, 1), (2, 1), (3, 1), (4, 1), (5, 1)], 6, 48, [.int .i64 0, .int .i64 0, .int .i64 0, .int .i64 0, .int .i64 0, .int .i64 0]⟩ := by kernel_rfl
theorem ti133 : tiOf Try.prog 133 = some ⟨.other, 1, 8, [.nilFunc]⟩ := by kernel_rfl
theorem ti134 : tiOf Try.prog 134 = some ⟨.other, 1, 8, [.nilFunc]⟩ := by kernel_rfl
theorem ti135 : tiOf Try.prog 135 = some ⟨.other, 1, 8, [.nilFunc]⟩ := by kernel_rfl
theorem ti136 : tiOf Try.prog 136 = some ⟨.other, 1, 8, [.nilFunc]⟩ := by kernel_rfl
theorem ti137 : tiOf Try.prog 137 = some ⟨.int .u64, 1, 8, [.int .u64 0]⟩ := by kernel_rfl
theorem ti138 : tiOf Try.prog 138 = some ⟨.array 8 5, 8, 8, [.int .u8 0, .int .u8 0, .int .u8 0, .int .u8 0, .int .u8 0, .int .u8 0, .int .u8 0, .int .u8 0]⟩ := by kernel_rfl
theorem ti139 : tiOf Try.prog 139 = some ⟨.other, 1, 8, [.nilFunc]⟩ := by kernel_rfl
theorem ti140 : tiOf Try.prog 140 = some ⟨.other, 1, 8, [.nilFunc]⟩ := by kernel_rfl
theorem ti141 : tiOf Try.prog 141 = some ⟨.other, 1, 8, [.nilFunc]⟩ := by kernel_rfl
theorem ti143 : tiOf Try.prog 143 = some ⟨.other, 1, 8, [.nilFunc]⟩ := by kernel_rfl
theorem ti144 : tiOf Try.prog 144 = some ⟨.other, 1, 8, [.nilFunc]⟩ := by kernel_rfl
theorem ti145 : tiOf Try.prog 145 = some ⟨.other, 1, 8, [.nilFunc]⟩ := by kernel_rfl
theorem ti146 : tiOf Try.prog 146 = some ⟨.other, 1, 8, [.nilFunc]⟩ := by kernel_rfl
theorem ti147 : tiOf Try.prog 147 = some ⟨.other, 1, 8, [.nilFunc]⟩ := by kernel_rfl
theorem ti148 : tiOf Try.prog 148 = some ⟨.other, 1, 8, [.nilFunc]⟩ := by kernel_rfl
theorem ti149 : tiOf Try.prog 149 = some ⟨.other, 1, 8, [.nilFunc]⟩ := by kernel_rfl
theorem ti150 : tiOf Try.prog 150 = some ⟨.other, 1, 8, [.nilFunc]⟩ := by kernel_rfl
theorem ti151 : tiOf Try.prog 151 = some ⟨.other, 1, 8, [.nilFunc]⟩ := by kernel_rfl
theorem ti152 : tiOf Try.prog 152 = some ⟨.other, 1, 8, [.nilFunc]⟩ := by kernel_rfl
theorem ti153 : tiOf Try.prog 153 = some ⟨.struct [(0, 1), (1, 1), (2, 1), (3, 1)], 4, 40, [.pointer none, .pointer none, .pointer none, .string ⟨#[]⟩]⟩ := by kernel_rfl
theorem ti154 : tiOf Try.prog 154 = some ⟨.struct [(0, 1), (1, 1), (2, 1), (3, 1)], 4, 40, [.pointer none, .pointer none, .pointer none, .string ⟨#[]⟩]⟩ := by kernel_rfl
theorem ti155 : tiOf Try.prog 155 = some ⟨.array 0 16, 0, 0, []⟩ := by kernel_rfl
theorem ti156 : tiOf Try.prog 156 = some ⟨.struct [(0, 0)], 0, 0, []⟩ := by kernel_rfl
theorem ti157 : tiOf Try.prog 157 = some ⟨.struct [(0, 0)], 0, 0, []⟩ := by kernel_rfl
theorem ti158 : tiOf Try.prog 158 = some ⟨.int .u32, 1, 4, [.int .u32 0]⟩ := by kernel_rfl
theorem ti159 : tiOf Try.prog 159 = some ⟨.int .u8, 1, 1, [.int .u8 0]⟩ := by kernel_rfl
theorem ti160 : tiOf Try.prog 160 = some ⟨.int .u8, 1, 1, [.int .u8 0]⟩ := by kernel_rfl
theorem ti161 : tiOf Try.prog 161 = some ⟨.other, 1, 8, [.nilFunc]⟩ := by kernel_rfl
theorem ti162 : tiOf Try.prog 162 = some ⟨.pointer 5, 1, 8, [.pointer none]⟩ := by kernel_rfl
theorem ti163 : tiOf Try.prog 163 = some ⟨.int .i32, 1, 4, [.int .i32 0]⟩ := by kernel_rfl
theorem ti164 : tiOf Try.prog 164 = some ⟨.int .i32, 1, 4, [.int .i32 0]⟩ := by kernel_rfl
theorem ti165 : tiOf Try.prog 165 = some ⟨.struct [(0, 1), (1, 1), (2, 1), (3, 1), (4, 1), (5, 1), (6, 1), (7, 1), (8, 1), (9, 1), (10, 1)], 11, 48, [.int .u64 0, .int .u64 0, .int .u32 0, .int .u8 0, .int .u8 0, .int .u8 0, .int .u8 0, .nilFunc, .pointer none, .int .i32 0, .int .i32 0]⟩ := by kernel_rfl
theorem ti166 : tiOf Try.prog 166 = some ⟨.struct [(0, 1), (1, 1), (2, 1), (3, 1), (4, 1), (5, 1), (6, 1), (7, 1), (8, 1), (9, 1), (10, 1)], 11, 48, [.int .u64 0, .int .u64 0, .int .u32 0, .int .u8 0, .int .u8 0, .int .u8 0, .int .u8 0, .nilFunc, .pointer none, .int .i32 0, .int .i32 0]⟩ := by kernel_rfl
def ttL : List (Nat × TI) := [
  (1, ⟨.other, 1, 8, [.nilFunc]⟩),
  (2, ⟨.int .i64, 1, 8, [.int .i64 0]⟩),
  (3, ⟨.int .i64, 1, 8, [.int .i64 0]⟩),
  (4, ⟨.bool, 1, 1, [.bool false]⟩),
  (5, ⟨.int .u8, 1, 1, [.int .u8 0]⟩),
  (6, ⟨.int .u8, 1, 1, [.int .u8 0]⟩),
  (7, ⟨.struct [(0, 1), (1, 1), (2, 1), (3, 1)], 4, 24, [.int .i64 0, .int .i64 0, .bool false, .int .u8 0]⟩),
  (8, ⟨.struct [(0, 1), (1, 1), (2, 1), (3, 1)], 4, 24, [.int .i64 0, .int .i64 0, .bool false, .int .u8 0]⟩),
  (9, ⟨.str, 1, 16, [.string ⟨#[]⟩]⟩),
  (10, ⟨.str, 1, 16, [.string ⟨#[]⟩]⟩),
  (11, ⟨.str, 1, 16, [.string ⟨#[]⟩]⟩),
  (12, ⟨.int .u64, 1, 8, [.int .u64 0]⟩),
  (13, ⟨.struct [(0, 1), (1, 1)], 2, 24, [.string ⟨#[]⟩, .int .u64 0]⟩),
  (14, ⟨.struct [(0, 1), (1, 1)], 2, 24, [.string ⟨#[]⟩, .int .u64 0]⟩),
  (15, ⟨.pointer 154, 1, 8, [.pointer none]⟩),
  (16, ⟨.pointer 157, 1, 8, [.pointer none]⟩),
  (17, ⟨.pointer 166, 1, 8, [.pointer none]⟩),
  (18, ⟨.struct [(0, 1)], 1, 8, [.pointer none]⟩),
  (19, ⟨.struct [(0, 1)], 1, 8, [.pointer none]⟩),
  (21, ⟨.int .i32, 1, 4, [.int .i32 0]⟩),
  (22, ⟨.struct [(0, 1), (1, 1), (2, 1), (3, 1), (4, 1)], 5, 40, [.int .i64 0, .int .i64 0, .int .i64 0, .int .i64 0, .int .i64 0]⟩),
  (23, ⟨.struct [(0, 1), (1, 1), (2, 1), (3, 1), (4, 1)], 5, 40, [.int .i64 0, .int .i64 0, .int .i64 0, .int .i64 0, .int .i64 0]⟩),
  (24, ⟨.slice 5, 1, 24, [.slice none 0 0]⟩),
  (25, ⟨.slice 128, 1, 24, [.slice none 0 0]⟩),
  (26, ⟨.struct [(0, 1), (1, 1)], 2, 48, [.slice none 0 0, .slice none 0 0]⟩),
  (27, ⟨.struct [(0, 1), (1, 1)], 2, 48, [.slice none 0 0, .slice none 0 0]⟩),
  (28, ⟨.slice 3, 1, 24, [.slice none 0 0]⟩),
  (29, ⟨.slice 110, 1, 24, [.slice none 0 0]⟩),
  (30, ⟨.slice 130, 1, 24, [.slice none 0 0]⟩),
  (31, ⟨.struct [(0, 1), (1, 1)], 2, 32, [.slice none 0 0, .bool false]⟩),
  (32, ⟨.struct [(0, 1), (1, 1)], 2, 32, [.slice none 0 0, .bool false]⟩),
  (33, ⟨.slice 132, 1, 24, [.slice none 0 0]⟩),
  (34, ⟨.slice 112, 1, 24, [.slice none 0 0]⟩),
  (35, ⟨.struct [(0, 5), (5, 2), (7, 1), (8, 1), (9, 1), (10, 1), (11, 1), (12, 1), (13, 1), (14, 2), (16, 1), (17, 1), (18, 1), (19, 1), (20, 1), (21, 1), (22, 1)], 23, 344, [.int .i64 0, .int .i64 0, .int .i64 0, .int .i64 0, .int .i64 0, .slice none 0 0, .slice none 0 0, .int .i64 0, .slice none 0 0, .slice none 0 0, .slice none 0 0, .slice none 0 0, .int .i64 0, .slice none 0 0, .slice none 0 0, .bool false, .slice none 0 0, .int .i64 0, .int .i64 0, .int .i64 0, .int .i64 0, .int .i64 0, .slice none 0 0]⟩),
  (36, ⟨.struct [(0, 5), (5, 2), (7, 1), (8, 1), (9, 1), (10, 1), (11, 1), (12, 1), (13, 1), (14, 2), (16, 1), (17, 1), (18, 1), (19, 1), (20, 1), (21, 1), (22, 1)], 23, 344, [.int .i64 0, .int .i64 0, .int .i64 0, .int .i64 0, .int .i64 0, .slice none 0 0, .slice none 0 0, .int .i64 0, .slice none 0 0, .slice none 0 0, .slice none 0 0, .slice none 0 0, .int .i64 0, .slice none 0 0, .slice none 0 0, .bool false, .slice none 0 0, .int .i64 0, .int .i64 0, .int .i64 0, .int .i64 0, .int .i64 0, .slice none 0 0]⟩),
  (37, ⟨.slice 66, 1, 24, [.slice none 0 0]⟩),
  (38, ⟨.struct [(0, 23), (23, 1), (24, 1), (25, 1), (26, 1)], 27, 416, [.int .i64 0, .int .i64 0, .int .i64 0, .int .i64 0, .int .i64 0, .slice none 0 0, .slice none 0 0, .int .i64 0, .slice none 0 0, .slice none 0 0, .slice none 0 0, .slice none 0 0, .int .i64 0, .slice none 0 0, .slice none 0 0, .bool false, .slice none 0 0, .int .i64 0, .int .i64 0, .int .i64 0, .int .i64 0, .int .i64 0, .slice none 0 0, .slice none 0 0, .slice none 0 0, .int .i64 0, .string ⟨#[]⟩]⟩),
  (39, ⟨.struct [(0, 23), (23, 1), (24, 1), (25, 1), (26, 1)], 27, 416, [.int .i64 0, .int .i64 0, .int .i64 0, .int .i64 0, .int .i64 0, .slice none 0 0, .slice none 0 0, .int .i64 0, .slice none 0 0, .slice none 0 0, .slice none 0 0, .slice none 0 0, .int .i64 0, .slice none 0 0, .slice none 0 0, .bool false, .slice none 0 0, .int .i64 0, .int .i64 0, .int .i64 0, .int .i64 0, .int .i64 0, .slice none 0 0, .slice none 0 0, .slice none 0 0, .int .i64 0, .string ⟨#[]⟩]⟩),
  (40, ⟨.other, 1, 8, [.nilFunc]⟩),
  (41, ⟨.other, 1, 8, [.nilFunc]⟩),
  (42, ⟨.other, 1, 8, [.nilFunc]⟩),
  (43, ⟨.other, 1, 8, [.nilFunc]⟩),
  (44, ⟨.slice 9, 1, 24, [.slice none 0 0]⟩),
  (45, ⟨.other, 1, 8, [.nilFunc]⟩),
  (46, ⟨.other, 1, 8, [.nilFunc]⟩),
  (47, ⟨.int .i64, 1, 8, [.int .i64 0]⟩),
  (49, ⟨.other, 1, 8, [.nilFunc]⟩),
  (51, ⟨.other, 1, 8, [.nilFunc]⟩),
  (52, ⟨.other, 1, 8, [.nilFunc]⟩),
  (53, ⟨.other, 1, 8, [.nilFunc]⟩),
  (54, ⟨.other, 1, 8, [.nilFunc]⟩),
  (55, ⟨.other, 1, 8, [.nilFunc]⟩),
  (57, ⟨.other, 1, 8, [.nilFunc]⟩),
  (59, ⟨.other, 1, 8, [.nilFunc]⟩),
  (60, ⟨.other, 1, 8, [.nilFunc]⟩),
  (61, ⟨.struct [(0, 23), (23, 1), (24, 1), (25, 1)], 26, 392, [.int .i64 0, .int .i64 0, .int .i64 0, .int .i64 0, .int .i64 0, .slice none 0 0, .slice none 0 0, .int .i64 0, .slice none 0 0, .slice none 0 0, .slice none 0 0, .slice none 0 0, .int .i64 0, .slice none 0 0, .slice none 0 0, .bool false, .slice none 0 0, .int .i64 0, .int .i64 0, .int .i64 0, .int .i64 0, .int .i64 0, .slice none 0 0, .slice none 0 0, .int .u8 0, .string ⟨#[]⟩]⟩),
  (62, ⟨.struct [(0, 23), (23, 1), (24, 1), (25, 1)], 26, 392, [.int .i64 0, .int .i64 0, .int .i64 0, .int .i64 0, .int .i64 0, .slice none 0 0, .slice none 0 0, .int .i64 0, .slice none 0 0, .slice none 0 0, .slice none 0 0, .slice none 0 0, .int .i64 0, .slice none 0 0, .slice none 0 0, .bool false, .slice none 0 0, .int .i64 0, .int .i64 0, .int .i64 0, .int .i64 0, .int .i64 0, .slice none 0 0, .slice none 0 0, .int .u8 0, .string ⟨#[]⟩]⟩),
  (63, ⟨.other, 1, 8, [.nilFunc]⟩),
  (64, ⟨.other, 1, 8, [.nilFunc]⟩),
  (65, ⟨.struct [(0, 1), (1, 1), (2, 1)], 3, 40, [.int .i64 0, .int .i64 0, .slice none 0 0]⟩),
  (66, ⟨.struct [(0, 1), (1, 1), (2, 1)], 3, 40, [.int .i64 0, .int .i64 0, .slice none 0 0]⟩),
  (68, ⟨.other, 1, 8, [.nilFunc]⟩),
  (69, ⟨.other, 1, 8, [.nilFunc]⟩),
  (70, ⟨.other, 1, 8, [.nilFunc]⟩),
  (71, ⟨.slice 44, 1, 24, [.slice none 0 0]⟩),
  (72, ⟨.other, 1, 8, [.nilFunc]⟩),
  (73, ⟨.other, 1, 8, [.nilFunc]⟩),
  (74, ⟨.other, 1, 8, [.nilFunc]⟩),
  (75, ⟨.other, 1, 8, [.nilFunc]⟩),
  (77, ⟨.other, 1, 8, [.nilFunc]⟩),
  (79, ⟨.other, 1, 8, [.nilFunc]⟩),
  (80, ⟨.struct [(0, 23), (23, 1), (24, 1)], 25, 376, [.int .i64 0, .int .i64 0, .int .i64 0, .int .i64 0, .int .i64 0, .slice none 0 0, .slice none 0 0, .int .i64 0, .slice none 0 0, .slice none 0 0, .slice none 0 0, .slice none 0 0, .int .i64 0, .slice none 0 0, .slice none 0 0, .bool false, .slice none 0 0, .int .i64 0, .int .i64 0, .int .i64 0, .int .i64 0, .int .i64 0, .slice none 0 0, .slice none 0 0, .int .i64 0]⟩),
  (81, ⟨.struct [(0, 23), (23, 1), (24, 1)], 25, 376, [.int .i64 0, .int .i64 0, .int .i64 0, .int .i64 0, .int .i64 0, .slice none 0 0, .slice none 0 0, .int .i64 0, .slice none 0 0, .slice none 0 0, .slice none 0 0, .slice none 0 0, .int .i64 0, .slice none 0 0, .slice none 0 0, .bool false, .slice none 0 0, .int .i64 0, .int .i64 0, .int .i64 0, .int .i64 0, .int .i64 0, .slice none 0 0, .slice none 0 0, .int .i64 0]⟩),
  (82, ⟨.other, 1, 8, [.nilFunc]⟩),
  (83, ⟨.other, 1, 8, [.nilFunc]⟩),
  (84, ⟨.other, 1, 8, [.nilFunc]⟩),
  (85, ⟨.other, 1, 8, [.nilFunc]⟩),
  (86, ⟨.other, 1, 8, [.nilFunc]⟩),
  (87, ⟨.other, 1, 8, [.nilFunc]⟩),
  (88, ⟨.other, 1, 8, [.nilFunc]⟩),
  (89, ⟨.other, 1, 8, [.nilFunc]⟩),
  (90, ⟨.other, 1, 8, [.nilFunc]⟩),
  (91, ⟨.other, 1, 8, [.nilFunc]⟩),
  (92, ⟨.other, 1, 8, [.nilFunc]⟩),
  (93, ⟨.other, 1, 8, [.nilFunc]⟩),
  (94, ⟨.other, 1, 8, [.nilFunc]⟩),
  (95, ⟨.other, 1, 8, [.nilFunc]⟩),
  (96, ⟨.other, 1, 8, [.nilFunc]⟩),
  (97, ⟨.other, 1, 8, [.nilFunc]⟩),
  (99, ⟨.map 9 97, 1, 8, [.map none]⟩),
  (100, ⟨.other, 1, 8, [.nilFunc]⟩),
  (101, ⟨.other, 1, 8, [.nilFunc]⟩),
  (102, ⟨.pointer 81, 1, 8, [.pointer none]⟩),
  (103, ⟨.other, 1, 8, [.nilFunc]⟩),
  (104, ⟨.other, 1, 8, [.nilFunc]⟩),
  (105, ⟨.other, 1, 8, [.nilFunc]⟩),
  (106, ⟨.other, 1, 8, [.nilFunc]⟩),
  (107, ⟨.other, 1, 8, [.nilFunc]⟩),
  (108, ⟨.other, 1, 8, [.nilFunc]⟩),
  (109, ⟨.struct [(0, 1), (1, 1), (2, 1)], 3, 24, [.int .i64 0, .int .i64 0, .int .i64 0]⟩),
  (110, ⟨.struct [(0, 1), (1, 1), (2, 1)], 3, 24, [.int .i64 0, .int .i64 0, .int .i64 0]⟩),
  (111, ⟨.struct [(0, 1), (1, 1), (2, 1), (3, 1)], 4, 32, [.int .i64 0, .int .i64 0, .int .i64 0, .bool false]⟩),
  (112, ⟨.struct [(0, 1), (1, 1), (2, 1), (3, 1)], 4, 32, [.int .i64 0, .int .i64 0, .int .i64 0, .bool false]⟩),
  (113, ⟨.other, 1, 8, [.nilFunc]⟩),
  (114, ⟨.other, 1, 8, [.nilFunc]⟩),
  (115, ⟨.other, 1, 8, [.nilFunc]⟩),
  (116, ⟨.other, 1, 8, [.nilFunc]⟩),
  (117, ⟨.other, 1, 8, [.nilFunc]⟩),
  (118, ⟨.other, 1, 8, [.nilFunc]⟩),
  (119, ⟨.other, 1, 8, [.nilFunc]⟩),
  (120, ⟨.other, 1, 8, [.nilFunc]⟩),
  (121, ⟨.struct [(0, 2), (2, 1)], 3, 56, [.slice none 0 0, .slice none 0 0, .int .i64 0]⟩),
  (122, ⟨.struct [(0, 2), (2, 1)], 3, 56, [.slice none 0 0, .slice none 0 0, .int .i64 0]⟩),
  (124, ⟨.other, 1, 8, [.nilFunc]⟩),
  (126, ⟨.other, 1, 8, [.nilFunc]⟩),
  (127, ⟨.struct [(0, 1), (1, 1)], 2, 32, [.int .i64 0, .slice none 0 0]⟩),
  (128, ⟨.struct [(0, 1), (1, 1)], 2, 32, [.int .i64 0, .slice none 0 0]⟩),
  (129, ⟨.struct [(0, 1), (1, 1), (2, 1)], 3, 32, [.string ⟨#[]⟩, .int .i64 0, .int .i64 0]⟩),
  (130, ⟨.struct [(0, 1), (1, 1), (2, 1)], 3, 32, [.string ⟨#[]⟩, .int .i64 0, .int .i64 0]⟩),
  (131, ⟨.struct [(0, 1), (1, 1), (2, 1), (3, 1), (4, 1), (5, 1)], 6, 48, [.int .i64 0, .int .i64 0, .int .i64 0, .int .i64 0, .int .i64 0, .int .i64 0]⟩),
  (132, ⟨.struct [(0, 1), (1, 1), (2, 1), (3, 1), (4, 1), (5, 1)], 6, 48, [.int .i64 0, .int .i64 0, .int .i64 0, .int .i64 0, .int .i64 0, .int .i64 0]⟩),
  (133, ⟨.other, 1, 8, [.nilFunc]⟩),
  (134, ⟨.other, 1, 8, [.nilFunc]⟩),
  (135, ⟨.other, 1, 8, [.nilFunc]⟩),
  (136, ⟨.other, 1, 8, [.nilFunc]⟩),
  (137, ⟨.int .u64, 1, 8, [.int .u64 0]⟩),
  (138, ⟨.array 8 5, 8, 8, [.int .u8 0, .int .u8 0, .int .u8 0, .int .u8 0, .int .u8 0, .int .u8 0, .int .u8 0, .int .u8 0]⟩),
  (139, ⟨.other, 1, 8, [.nilFunc]⟩),
  (140, ⟨.other, 1, 8, [.nilFunc]⟩),
  (141, ⟨.other, 1, 8, [.nilFunc]⟩),
  (143, ⟨.other, 1, 8, [.nilFunc]⟩),
  (144, ⟨.other, 1, 8, [.nilFunc]⟩),
  (145, ⟨.other, 1, 8, [.nilFunc]⟩),
  (146, ⟨.other, 1, 8, [.nilFunc]⟩),
  (147, ⟨.other, 1, 8, [.nilFunc]⟩),
  (148, ⟨.other, 1, 8, [.nilFunc]⟩),
  (149, ⟨.other, 1, 8, [.nilFunc]⟩),
  (150, ⟨.other, 1, 8, [.nilFunc]⟩),
  (151, ⟨.other, 1, 8, [.nilFunc]⟩),
  (152, ⟨.other, 1, 8, [.nilFunc]⟩),
  (153, ⟨.struct [(0, 1), (1, 1), (2, 1), (3, 1)], 4, 40, [.pointer none, .pointer none, .pointer none, .string ⟨#[]⟩]⟩),
  (154, ⟨.struct [(0, 1), (1, 1), (2, 1), (3, 1)], 4, 40, [.pointer none, .pointer none, .pointer none, .string ⟨#[]⟩]⟩),
  (155, ⟨.array 0 16, 0, 0, []⟩),
  (156, ⟨.struct [(0, 0)], 0, 0, []⟩),
  (157, ⟨.struct [(0, 0)], 0, 0, []⟩),
  (158, ⟨.int .u32, 1, 4, [.int .u32 0]⟩),
  (159, ⟨.int .u8, 1, 1, [.int .u8 0]⟩),
  (160, ⟨.int .u8, 1, 1, [.int .u8 0]⟩),
  (161, ⟨.other, 1, 8, [.nilFunc]⟩),
  (162, ⟨.pointer 5, 1, 8, [.pointer none]⟩),
  (163, ⟨.int .i32, 1, 4, [.int .i32 0]⟩),
  (164, ⟨.int .i32, 1, 4, [.int .i32 0]⟩),
  (165, ⟨.struct [(0, 1), (1, 1), (2, 1), (3, 1), (4, 1), (5, 1), (6, 1), (7, 1), (8, 1), (9, 1), (10, 1)], 11, 48, [.int .u64 0, .int .u64 0, .int .u32 0, .int .u8 0, .int .u8 0, .int .u8 0, .int .u8 0, .nilFunc, .pointer none, .int .i32 0, .int .i32 0]⟩),
  (166, ⟨.struct [(0, 1), (1, 1), (2, 1), (3, 1), (4, 1), (5, 1), (6, 1), (7, 1), (8, 1), (9, 1), (10, 1)], 11, 48, [.int .u64 0, .int .u64 0, .int .u32 0, .int .u8 0, .int .u8 0, .int .u8 0, .int .u8 0, .nilFunc, .pointer none, .int .i32 0, .int .i32 0]⟩)]
def tt : Nat → Option TI := lkT ttL
theorem tok : ∀ t ti, tt t = some ti → tiOf Try.prog t = some ti := lkT_ok Try.prog ttL ⟨ti1, ti2, ti3, ti4, ti5, ti6, ti7, ti8, ti9, ti10, ti11, ti12, ti13, ti14, ti15, ti16, ti17, ti18, ti19, ti21, ti22, ti23, ti24, ti25, ti26, ti27, ti28, ti29, ti30, ti31, ti32, ti33, ti34, ti35, ti36, ti37, ti38, ti39, ti40, ti41, ti42, ti43, ti44, ti45, ti46, ti47, ti49, ti51, ti52, ti53, ti54, ti55, ti57, ti59, ti60, ti61, ti62, ti63, ti64, ti65, ti66, ti68, ti69, ti70, ti71, ti72, ti73, ti74, ti75, ti77, ti79, ti80, ti81, ti82, ti83, ti84, ti85, ti86, ti87, ti88, ti89, ti90, ti91, ti92, ti93, ti94, ti95, ti96, ti97, ti99, ti100, ti101, ti102, ti103, ti104, ti105, ti106, ti107, ti108, ti109, ti110, ti111, ti112, ti113, ti114, ti115, ti116, ti117, ti118, ti119, ti120, ti121, ti122, ti124, ti126, ti127, ti128, ti129, ti130, ti131, ti132, ti133, ti134, ti135, ti136, ti137, ti138, ti139, ti140, ti141, ti143, ti144, ti145, ti146, ti147, ti148, ti149, ti150, ti151, ti152, ti153, ti154, ti155, ti156, ti157, ti158, ti159, ti160, ti161, ti162, ti163, ti164, ti165, ti166, trivial⟩
theorem hmix : Try.prog.follows .mixedOrders = true := by kernel_rfl
end Go.Proofs.Ytpkkplojpjakiaa
