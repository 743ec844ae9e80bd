/- The table of types, as the walks use it. Printed by gent.py. -/
import Derived.Test.YtedfegoafallhaaProg
import Derived.Test.YtedfegoafallhaaA1
import Derived.KernelRfl
namespace Go.Proofs.Ytedfegoafallhaa
open Go
theorem ti1 : tiOf Try.prog 1 = some ⟨.other, 1, 8, [.nilFunc]⟩ := by kernel_rfl
theorem ti2 : tiOf Try.prog 2 = some ⟨.int .i64, 1, 8, [.int .i64 0]⟩ := by kernel_rfl
theorem ti3 : tiOf Try.prog 3 = some ⟨.int .i64, 1, 8, [.int .i64 0]⟩ := by kernel_rfl
theorem ti4 : tiOf Try.prog 4 = some ⟨.bool, 1, 1, [.bool false]⟩ := by kernel_rfl
theorem ti5 : tiOf Try.prog 5 = some ⟨.int .u8, 1, 1, [.int .u8 0]⟩ := by kernel_rfl
theorem ti6 : tiOf Try.prog 6 = some ⟨.int .u8, 1, 1, [.int .u8 0]⟩ := by kernel_rfl
theorem ti7 : tiOf Try.prog 7 = some ⟨.struct [(0, 1), (1, 1), (2, 1), (3, 1)], 4, 24, [.int .i64 0, .int .i64 0, .bool false, .int .u8 0]⟩ := by kernel_rfl
theorem ti8 : tiOf Try.prog 8 = some ⟨.struct [(0, 1), (1, 1), (2, 1), (3, 1)], 4, 24, [.int .i64 0, .int .i64 0, .bool false, .int .u8 0]⟩ := by kernel_rfl
theorem ti9 : tiOf Try.prog 9 = some ⟨.str, 1, 16, [.string ⟨#[]⟩]⟩ := by kernel_rfl
theorem ti10 : tiOf Try.prog 10 = some ⟨.str, 1, 16, [.string ⟨#[]⟩]⟩ := by kernel_rfl
theorem ti11 : tiOf Try.prog 11 = some ⟨.str, 1, 16, [.string ⟨#[]⟩]⟩ := by kernel_rfl
theorem ti12 : tiOf Try.prog 12 = some ⟨.int .u64, 1, 8, [.int .u64 0]⟩ := by kernel_rfl
theorem ti13 : tiOf Try.prog 13 = some ⟨.struct [(0, 1), (1, 1)], 2, 24, [.string ⟨#[]⟩, .int .u64 0]⟩ := by kernel_rfl
theorem ti14 : tiOf Try.prog 14 = some ⟨.struct [(0, 1), (1, 1)], 2, 24, [.string ⟨#[]⟩, .int .u64 0]⟩ := by kernel_rfl
theorem ti15 : tiOf Try.prog 15 = some ⟨.pointer 74, 1, 8, [.pointer none]⟩ := by kernel_rfl
theorem ti16 : tiOf Try.prog 16 = some ⟨.pointer 77, 1, 8, [.pointer none]⟩ := by kernel_rfl
theorem ti17 : tiOf Try.prog 17 = some ⟨.pointer 86, 1, 8, [.pointer none]⟩ := by kernel_rfl
theorem ti18 : tiOf Try.prog 18 = some ⟨.struct [(0, 1)], 1, 8, [.pointer none]⟩ := by kernel_rfl
theorem ti19 : tiOf Try.prog 19 = some ⟨.struct [(0, 1)], 1, 8, [.pointer none]⟩ := by kernel_rfl
theorem ti21 : tiOf Try.prog 21 = some ⟨.int .i32, 1, 4, [.int .i32 0]⟩ := by kernel_rfl
theorem ti22 : tiOf Try.prog 22 = some ⟨.slice 30, 1, 24, [.slice none 0 0]⟩ := by kernel_rfl
theorem ti23 : tiOf Try.prog 23 = some ⟨.struct [(0, 1), (1, 1), (2, 1), (3, 1)], 4, 72, [.slice none 0 0, .slice none 0 0, .string ⟨#[]⟩, .int .i64 0]⟩ := by kernel_rfl
theorem ti24 : tiOf Try.prog 24 = some ⟨.struct [(0, 1), (1, 1), (2, 1), (3, 1)], 4, 72, [.slice none 0 0, .slice none 0 0, .string ⟨#[]⟩, .int .i64 0]⟩ := by kernel_rfl
theorem ti25 : tiOf Try.prog 25 = some ⟨.other, 1, 8, [.nilFunc]⟩ := by kernel_rfl
theorem ti26 : tiOf Try.prog 26 = some ⟨.other, 1, 8, [.nilFunc]⟩ := by kernel_rfl
theorem ti27 : tiOf Try.prog 27 = some ⟨.other, 1, 8, [.nilFunc]⟩ := by kernel_rfl
theorem ti28 : tiOf Try.prog 28 = some ⟨.other, 1, 8, [.nilFunc]⟩ := by kernel_rfl
theorem ti29 : tiOf Try.prog 29 = some ⟨.struct [(0, 1), (1, 1), (2, 1)], 3, 32, [.string ⟨#[]⟩, .int .i64 0, .int .i64 0]⟩ := by kernel_rfl
theorem ti30 : tiOf Try.prog 30 = some ⟨.struct [(0, 1), (1, 1), (2, 1)], 3, 32, [.string ⟨#[]⟩, .int .i64 0, .int .i64 0]⟩ := by kernel_rfl
theorem ti32 : tiOf Try.prog 32 = some ⟨.other, 1, 8, [.nilFunc]⟩ := by kernel_rfl
theorem ti33 : tiOf Try.prog 33 = some ⟨.other, 1, 8, [.nilFunc]⟩ := by kernel_rfl
theorem ti34 : tiOf Try.prog 34 = some ⟨.other, 1, 8, [.nilFunc]⟩ := by kernel_rfl
theorem ti35 : tiOf Try.prog 35 = some ⟨.struct [(0, 1), (1, 1), (2, 1), (3, 1), (4, 1)], 5, 64, [.slice none 0 0, .string ⟨#[]⟩, .int .i64 0, .int .i64 0, .int .i64 0]⟩ := by kernel_rfl
theorem ti36 : tiOf Try.prog 36 = some ⟨.struct [(0, 1), (1, 1), (2, 1), (3, 1), (4, 1)], 5, 64, [.slice none 0 0, .string ⟨#[]⟩, .int .i64 0, .int .i64 0, .int .i64 0]⟩ := by kernel_rfl
theorem ti37 : tiOf Try.prog 37 = some ⟨.int .i64, 1, 8, [.int .i64 0]⟩ := by kernel_rfl
theorem ti39 : tiOf Try.prog 39 = some ⟨.other, 1, 8, [.nilFunc]⟩ := by kernel_rfl
theorem ti41 : tiOf Try.prog 41 = some ⟨.other, 1, 8, [.nilFunc]⟩ := by kernel_rfl
theorem ti42 : tiOf Try.prog 42 = some ⟨.other, 1, 8, [.nilFunc]⟩ := by kernel_rfl
theorem ti43 : tiOf Try.prog 43 = some ⟨.other, 1, 8, [.nilFunc]⟩ := by kernel_rfl
theorem ti44 : tiOf Try.prog 44 = some ⟨.other, 1, 8, [.nilFunc]⟩ := by kernel_rfl
theorem ti45 : tiOf Try.prog 45 = some ⟨.other, 1, 8, [.nilFunc]⟩ := by kernel_rfl
theorem ti46 : tiOf Try.prog 46 = some ⟨.other, 1, 8, [.nilFunc]⟩ := by kernel_rfl
theorem ti47 : tiOf Try.prog 47 = some ⟨.struct [(0, 1), (1, 1), (2, 1), (3, 1), (4, 1)], 5, 72, [.slice none 0 0, .string ⟨#[]⟩, .int .i64 0, .int .i64 0, .string ⟨#[]⟩]⟩ := by kernel_rfl
theorem ti48 : tiOf Try.prog 48 = some ⟨.struct [(0, 1), (1, 1), (2, 1), (3, 1), (4, 1)], 5, 72, [.slice none 0 0, .string ⟨#[]⟩, .int .i64 0, .int .i64 0, .string ⟨#[]⟩]⟩ := by kernel_rfl
theorem ti49 : tiOf Try.prog 49 = some ⟨.other, 1, 8, [.nilFunc]⟩ := by kernel_rfl
theorem ti50 : tiOf Try.prog 50 = some ⟨.other, 1, 8, [.nilFunc]⟩ := by kernel_rfl
theorem ti51 : tiOf Try.prog 51 = some ⟨.other, 1, 8, [.nilFunc]⟩ := by kernel_rfl
theorem ti52 : tiOf Try.prog 52 = some ⟨.other, 1, 8, [.nilFunc]⟩ := by kernel_rfl
theorem ti53 : tiOf Try.prog 53 = some ⟨.struct [(0, 1), (1, 1), (2, 1), (3, 1)], 4, 56, [.slice none 0 0, .string ⟨#[]⟩, .int .i64 0, .int .u8 0]⟩ := by kernel_rfl
theorem ti54 : tiOf Try.prog 54 = some ⟨.struct [(0, 1), (1, 1), (2, 1), (3, 1)], 4, 56, [.slice none 0 0, .string ⟨#[]⟩, .int .i64 0, .int .u8 0]⟩ := by kernel_rfl
theorem ti55 : tiOf Try.prog 55 = some ⟨.other, 1, 8, [.nilFunc]⟩ := by kernel_rfl
theorem ti56 : tiOf Try.prog 56 = some ⟨.struct [(0, 1), (1, 1), (2, 1), (3, 1)], 4, 48, [.slice none 0 0, .int .u8 0, .int .u8 0, .string ⟨#[]⟩]⟩ := by kernel_rfl
theorem ti57 : tiOf Try.prog 57 = some ⟨.struct [(0, 1), (1, 1), (2, 1), (3, 1)], 4, 48, [.slice none 0 0, .int .u8 0, .int .u8 0, .string ⟨#[]⟩]⟩ := by kernel_rfl
theorem ti58 : tiOf Try.prog 58 = some ⟨.other, 1, 8, [.nilFunc]⟩ := by kernel_rfl
theorem ti59 : tiOf Try.prog 59 = some ⟨.other, 1, 8, [.nilFunc]⟩ := by kernel_rfl
theorem ti60 : tiOf Try.prog 60 = some ⟨.other, 1, 8, [.nilFunc]⟩ := by kernel_rfl
theorem ti61 : tiOf Try.prog 61 = some ⟨.other, 1, 8, [.nilFunc]⟩ := by kernel_rfl
theorem ti62 : tiOf Try.prog 62 = some ⟨.other, 1, 8, [.nilFunc]⟩ := by kernel_rfl
theorem ti63 : tiOf Try.prog 63 = some ⟨.other, 1, 8, [.nilFunc]⟩ := by kernel_rfl
theorem ti64 : tiOf Try.prog 64 = some ⟨.other, 1, 8, [.nilFunc]⟩ := by kernel_rfl
theorem ti65 : tiOf Try.prog 65 = some ⟨.slice 5, 1, 24, [.slice none 0 0]⟩ := by kernel_rfl
theorem ti66 : tiOf Try.prog 66 = some ⟨.other, 1, 8, [.nilFunc]⟩ := by kernel_rfl
theorem ti67 : tiOf Try.prog 67 = some ⟨.other, 1, 8, [.nilFunc]⟩ := by kernel_rfl
theorem ti68 : tiOf Try.prog 68 = some ⟨.other, 1, 8, [.nilFunc]⟩ := by kernel_rfl
theorem ti69 : tiOf Try.prog 69 = some ⟨.other, 1, 8, [.nilFunc]⟩ := by kernel_rfl
theorem ti70 : tiOf Try.prog 70 = some ⟨.pointer 5, 1, 8, [.pointer none]⟩ := by kernel_rfl
theorem ti71 : tiOf Try.prog 71 = some ⟨.other, 1, 8, [.nilFunc]⟩ := by kernel_rfl
theorem ti72 : tiOf Try.prog 72 = some ⟨.other, 1, 8, [.nilFunc]⟩ := by kernel_rfl
theorem ti73 : tiOf Try.prog 73 = some ⟨.struct [(0, 1), (1, 1), (2, 1), (3, 1)], 4, 40, [.pointer none, .pointer none, .pointer none, .string ⟨#[]⟩]⟩ := by kernel_rfl
theorem ti74 : tiOf Try.prog 74 = some ⟨.struct [(0, 1), (1, 1), (2, 1), (3, 1)], 4, 40, [.pointer none, .pointer none, .pointer none, .string ⟨#[]⟩]⟩ := by kernel_rfl
theorem ti75 : tiOf Try.prog 75 = some ⟨.array 0 16, 0, 0, []⟩ := by kernel_rfl
theorem ti76 : tiOf Try.prog 76 = some ⟨.struct [(0, 0)], 0, 0, []⟩ := by kernel_rfl
theorem ti77 : tiOf Try.prog 77 = some ⟨.struct [(0, 0)], 0, 0, []⟩ := by kernel_rfl
theorem ti78 : tiOf Try.prog 78 = some ⟨.other, 1, 8, [.nilFunc]⟩ := by kernel_rfl
theorem ti79 : tiOf Try.prog 79 = some ⟨.int .u32, 1, 4, [.int .u32 0]⟩ := by kernel_rfl
theorem ti80 : tiOf Try.prog 80 = some ⟨.int .u8, 1, 1, [.int .u8 0]⟩ := by kernel_rfl
theorem ti81 : tiOf Try.prog 81 = some ⟨.int .u8, 1, 1, [.int .u8 0]⟩ := by kernel_rfl
theorem ti82 : tiOf Try.prog 82 = some ⟨.other, 1, 8, [.nilFunc]⟩ := by kernel_rfl
theorem ti83 : tiOf Try.prog 83 = some ⟨.int .i32, 1, 4, [.int .i32 0]⟩ := by kernel_rfl
theorem ti84 : tiOf Try.prog 84 = some ⟨.int .i32, 1, 4, [.int .i32 0]⟩ := by kernel_rfl
theorem ti85 : tiOf Try.prog 85 = some ⟨.struct [(0, 1), (1, 1), (2, 1), (3, 1), (4, 1), (5, 1), (6, 1), (7, 1), (8, 1), (9, 1), (10, 1)], 11, 48, [.int .u64 0, .int .u64 0, .int .u32 0, .int .u8 0, .int .u8 0, .int .u8 0, .int .u8 0, .nilFunc, .pointer none, .int .i32 0, .int .i32 0]⟩ := by kernel_rfl
theorem ti86 : tiOf Try.prog 86 = some ⟨.struct [(0, 1), (1, 1), (2, 1), (3, 1), (4, 1), (5, 1), (6, 1), (7, 1), (8, 1), (9, 1), (10, 1)], 11, 48, [.int .u64 0, .int .u64 0, .int .u32 0, .int .u8 0, .int .u8 0, .int .u8 0, .int .u8 0, .nilFunc, .pointer none, .int .i32 0, .int .i32 0]⟩ := by kernel_rfl
def ttL : List (Nat × TI) := [
  (1, ⟨.other, 1, 8, [.nilFunc]⟩),
  (2, ⟨.int .i64, 1, 8, [.int .i64 0]⟩),
  (3, ⟨.int .i64, 1, 8, [.int .i64 0]⟩),
  (4, ⟨.bool, 1, 1, [.bool false]⟩),
  (5, ⟨.int .u8, 1, 1, [.int .u8 0]⟩),
  (6, ⟨.int .u8, 1, 1, [.int .u8 0]⟩),
  (7, ⟨.struct [(0, 1), (1, 1), (2, 1), (3, 1)], 4, 24, [.int .i64 0, .int .i64 0, .bool false, .int .u8 0]⟩),
  (8, ⟨.struct [(0, 1), (1, 1), (2, 1), (3, 1)], 4, 24, [.int .i64 0, .int .i64 0, .bool false, .int .u8 0]⟩),
  (9, ⟨.str, 1, 16, [.string ⟨#[]⟩]⟩),
  (10, ⟨.str, 1, 16, [.string ⟨#[]⟩]⟩),
  (11, ⟨.str, 1, 16, [.string ⟨#[]⟩]⟩),
  (12, ⟨.int .u64, 1, 8, [.int .u64 0]⟩),
  (13, ⟨.struct [(0, 1), (1, 1)], 2, 24, [.string ⟨#[]⟩, .int .u64 0]⟩),
  (14, ⟨.struct [(0, 1), (1, 1)], 2, 24, [.string ⟨#[]⟩, .int .u64 0]⟩),
  (15, ⟨.pointer 74, 1, 8, [.pointer none]⟩),
  (16, ⟨.pointer 77, 1, 8, [.pointer none]⟩),
  (17, ⟨.pointer 86, 1, 8, [.pointer none]⟩),
  (18, ⟨.struct [(0, 1)], 1, 8, [.pointer none]⟩),
  (19, ⟨.struct [(0, 1)], 1, 8, [.pointer none]⟩),
  (21, ⟨.int .i32, 1, 4, [.int .i32 0]⟩),
  (22, ⟨.slice 30, 1, 24, [.slice none 0 0]⟩),
  (23, ⟨.struct [(0, 1), (1, 1), (2, 1), (3, 1)], 4, 72, [.slice none 0 0, .slice none 0 0, .string ⟨#[]⟩, .int .i64 0]⟩),
  (24, ⟨.struct [(0, 1), (1, 1), (2, 1), (3, 1)], 4, 72, [.slice none 0 0, .slice none 0 0, .string ⟨#[]⟩, .int .i64 0]⟩),
  (25, ⟨.other, 1, 8, [.nilFunc]⟩),
  (26, ⟨.other, 1, 8, [.nilFunc]⟩),
  (27, ⟨.other, 1, 8, [.nilFunc]⟩),
  (28, ⟨.other, 1, 8, [.nilFunc]⟩),
  (29, ⟨.struct [(0, 1), (1, 1), (2, 1)], 3, 32, [.string ⟨#[]⟩, .int .i64 0, .int .i64 0]⟩),
  (30, ⟨.struct [(0, 1), (1, 1), (2, 1)], 3, 32, [.string ⟨#[]⟩, .int .i64 0, .int .i64 0]⟩),
  (32, ⟨.other, 1, 8, [.nilFunc]⟩),
  (33, ⟨.other, 1, 8, [.nilFunc]⟩),
  (34, ⟨.other, 1, 8, [.nilFunc]⟩),
  (35, ⟨.struct [(0, 1), (1, 1), (2, 1), (3, 1), (4, 1)], 5, 64, [.slice none 0 0, .string ⟨#[]⟩, .int .i64 0, .int .i64 0, .int .i64 0]⟩),
  (36, ⟨.struct [(0, 1), (1, 1), (2, 1), (3, 1), (4, 1)], 5, 64, [.slice none 0 0, .string ⟨#[]⟩, .int .i64 0, .int .i64 0, .int .i64 0]⟩),
  (37, ⟨.int .i64, 1, 8, [.int .i64 0]⟩),
  (39, ⟨.other, 1, 8, [.nilFunc]⟩),
  (41, ⟨.other, 1, 8, [.nilFunc]⟩),
  (42, ⟨.other, 1, 8, [.nilFunc]⟩),
  (43, ⟨.other, 1, 8, [.nilFunc]⟩),
  (44, ⟨.other, 1, 8, [.nilFunc]⟩),
  (45, ⟨.other, 1, 8, [.nilFunc]⟩),
  (46, ⟨.other, 1, 8, [.nilFunc]⟩),
  (47, ⟨.struct [(0, 1), (1, 1), (2, 1), (3, 1), (4, 1)], 5, 72, [.slice none 0 0, .string ⟨#[]⟩, .int .i64 0, .int .i64 0, .string ⟨#[]⟩]⟩),
  (48, ⟨.struct [(0, 1), (1, 1), (2, 1), (3, 1), (4, 1)], 5, 72, [.slice none 0 0, .string ⟨#[]⟩, .int .i64 0, .int .i64 0, .string ⟨#[]⟩]⟩),
  (49, ⟨.other, 1, 8, [.nilFunc]⟩),
  (50, ⟨.other, 1, 8, [.nilFunc]⟩),
  (51, ⟨.other, 1, 8, [.nilFunc]⟩),
  (52, ⟨.other, 1, 8, [.nilFunc]⟩),
  (53, ⟨.struct [(0, 1), (1, 1), (2, 1), (3, 1)], 4, 56, [.slice none 0 0, .string ⟨#[]⟩, .int .i64 0, .int .u8 0]⟩),
  (54, ⟨.struct [(0, 1), (1, 1), (2, 1), (3, 1)], 4, 56, [.slice none 0 0, .string ⟨#[]⟩, .int .i64 0, .int .u8 0]⟩),
  (55, ⟨.other, 1, 8, [.nilFunc]⟩),
  (56, ⟨.struct [(0, 1), (1, 1), (2, 1), (3, 1)], 4, 48, [.slice none 0 0, .int .u8 0, .int .u8 0, .string ⟨#[]⟩]⟩),
  (57, ⟨.struct [(0, 1), (1, 1), (2, 1), (3, 1)], 4, 48, [.slice none 0 0, .int .u8 0, .int .u8 0, .string ⟨#[]⟩]⟩),
  (58, ⟨.other, 1, 8, [.nilFunc]⟩),
  (59, ⟨.other, 1, 8, [.nilFunc]⟩),
  (60, ⟨.other, 1, 8, [.nilFunc]⟩),
  (61, ⟨.other, 1, 8, [.nilFunc]⟩),
  (62, ⟨.other, 1, 8, [.nilFunc]⟩),
  (63, ⟨.other, 1, 8, [.nilFunc]⟩),
  (64, ⟨.other, 1, 8, [.nilFunc]⟩),
  (65, ⟨.slice 5, 1, 24, [.slice none 0 0]⟩),
  (66, ⟨.other, 1, 8, [.nilFunc]⟩),
  (67, ⟨.other, 1, 8, [.nilFunc]⟩),
  (68, ⟨.other, 1, 8, [.nilFunc]⟩),
  (69, ⟨.other, 1, 8, [.nilFunc]⟩),
  (70, ⟨.pointer 5, 1, 8, [.pointer none]⟩),
  (71, ⟨.other, 1, 8, [.nilFunc]⟩),
  (72, ⟨.other, 1, 8, [.nilFunc]⟩),
  (73, ⟨.struct [(0, 1), (1, 1), (2, 1), (3, 1)], 4, 40, [.pointer none, .pointer none, .pointer none, .string ⟨#[]⟩]⟩),
  (74, ⟨.struct [(0, 1), (1, 1), (2, 1), (3, 1)], 4, 40, [.pointer none, .pointer none, .pointer none, .string ⟨#[]⟩]⟩),
  (75, ⟨.array 0 16, 0, 0, []⟩),
  (76, ⟨.struct [(0, 0)], 0, 0, []⟩),
  (77, ⟨.struct [(0, 0)], 0, 0, []⟩),
  (78, ⟨.other, 1, 8, [.nilFunc]⟩),
  (79, ⟨.int .u32, 1, 4, [.int .u32 0]⟩),
  (80, ⟨.int .u8, 1, 1, [.int .u8 0]⟩),
  (81, ⟨.int .u8, 1, 1, [.int .u8 0]⟩),
  (82, ⟨.other, 1, 8, [.nilFunc]⟩),
  (83, ⟨.int .i32, 1, 4, [.int .i32 0]⟩),
  (84, ⟨.int .i32, 1, 4, [.int .i32 0]⟩),
  (85, ⟨.struct [(0, 1), (1, 1), (2, 1), (3, 1), (4, 1), (5, 1), (6, 1), (7, 1), (8, 1), (9, 1), (10, 1)], 11, 48, [.int .u64 0, .int .u64 0, .int .u32 0, .int .u8 0, .int .u8 0, .int .u8 0, .int .u8 0, .nilFunc, .pointer none, .int .i32 0, .int .i32 0]⟩),
  (86, ⟨.struct [(0, 1), (1, 1), (2, 1), (3, 1), (4, 1), (5, 1), (6, 1), (7, 1), (8, 1), (9, 1), (10, 1)], 11, 48, [.int .u64 0, .int .u64 0, .int .u32 0, .int .u8 0, .int .u8 0, .int .u8 0, .int .u8 0, .nilFunc, .pointer none, .int .i32 0, .int .i32 0]⟩)]
def tt : Nat → Option TI := lkT ttL
theorem tok : ∀ t ti, tt t = some ti → tiOf Try.prog t = some ti := lkT_ok Try.prog ttL ⟨ti1, ti2, ti3, ti4, ti5, ti6, ti7, ti8, ti9, ti10, ti11, ti12, ti13, ti14, ti15, ti16, ti17, ti18, ti19, ti21, ti22, ti23, ti24, ti25, ti26, ti27, ti28, ti29, ti30, ti32, ti33, ti34, ti35, ti36, ti37, ti39, ti41, ti42, ti43, ti44, ti45, ti46, ti47, ti48, ti49, ti50, ti51, ti52, ti53, ti54, ti55, ti56, ti57, ti58, ti59, ti60, ti61, ti62, ti63, ti64, ti65, ti66, ti67, ti68, ti69, ti70, ti71, ti72, ti73, ti74, ti75, ti76, ti77, ti78, ti79, ti80, ti81, ti82, ti83, ti84, ti85, ti86, trivial⟩
theorem hmix : Try.prog.follows .mixedOrders = true := by kernel_rfl
end Go.Proofs.Ytedfegoafallhaa
