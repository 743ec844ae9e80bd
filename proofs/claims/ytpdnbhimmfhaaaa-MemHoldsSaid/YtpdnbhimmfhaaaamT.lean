/- The table of types, as the walks use it. Printed by gent.py. -/
import Derived.Test.YtpdnbhimmfhaaaaProg
import Derived.Test.YtpdnbhimmfhaaaaA1
import Derived.KernelRfl
namespace Go.Proofs.Ytpdnbhimmfhaaaa
open Go
theorem ti2 : tiOf Try.prog 2 = some ⟨.int .i64, 1, 8, [.int .i64 0]⟩ := by kernel_rfl
theorem ti3 : tiOf Try.prog 3 = some ⟨.int .i64, 1, 8, [.int .i64 0]⟩ := by kernel_rfl
theorem ti4 : tiOf Try.prog 4 = some ⟨.bool, 1, 1, [.bool false]⟩ := by kernel_rfl
theorem ti5 : tiOf Try.prog 5 = some ⟨.int .u8, 1, 1, [.int .u8 0]⟩ := by kernel_rfl
theorem ti6 : tiOf Try.prog 6 = some ⟨.int .u8, 1, 1, [.int .u8 0]⟩ := by kernel_rfl
theorem ti7 : tiOf Try.prog 7 = some ⟨.struct [(0, 1), (1, 1), (2, 1), (3, 1)], 4, 24, [.int .i64 0, .int .i64 0, .bool false, .int .u8 0]⟩ := by kernel_rfl
theorem ti8 : tiOf Try.prog 8 = some ⟨.struct [(0, 1), (1, 1), (2, 1), (3, 1)], 4, 24, [.int .i64 0, .int .i64 0, .bool false, .int .u8 0]⟩ := by kernel_rfl
theorem ti9 : tiOf Try.prog 9 = some ⟨.str, 1, 16, [.string ⟨#[]⟩]⟩ := by kernel_rfl
theorem ti10 : tiOf Try.prog 10 = some ⟨.str, 1, 16, [.string ⟨#[]⟩]⟩ := by kernel_rfl
theorem ti11 : tiOf Try.prog 11 = some ⟨.str, 1, 16, [.string ⟨#[]⟩]⟩ := by kernel_rfl
theorem ti12 : tiOf Try.prog 12 = some ⟨.int .u64, 1, 8, [.int .u64 0]⟩ := by kernel_rfl
theorem ti13 : tiOf Try.prog 13 = some ⟨.struct [(0, 1), (1, 1)], 2, 24, [.string ⟨#[]⟩, .int .u64 0]⟩ := by kernel_rfl
theorem ti14 : tiOf Try.prog 14 = some ⟨.struct [(0, 1), (1, 1)], 2, 24, [.string ⟨#[]⟩, .int .u64 0]⟩ := by kernel_rfl
theorem ti15 : tiOf Try.prog 15 = some ⟨.pointer 105, 1, 8, [.pointer none]⟩ := by kernel_rfl
theorem ti16 : tiOf Try.prog 16 = some ⟨.pointer 108, 1, 8, [.pointer none]⟩ := by kernel_rfl
theorem ti17 : tiOf Try.prog 17 = some ⟨.pointer 117, 1, 8, [.pointer none]⟩ := by kernel_rfl
theorem ti18 : tiOf Try.prog 18 = some ⟨.struct [(0, 1)], 1, 8, [.pointer none]⟩ := by kernel_rfl
theorem ti19 : tiOf Try.prog 19 = some ⟨.struct [(0, 1)], 1, 8, [.pointer none]⟩ := by kernel_rfl
theorem ti21 : tiOf Try.prog 21 = some ⟨.int .i32, 1, 4, [.int .i32 0]⟩ := by kernel_rfl
theorem ti22 : tiOf Try.prog 22 = some ⟨.slice 5, 1, 24, [.slice none 0 0]⟩ := by kernel_rfl
theorem ti23 : tiOf Try.prog 23 = some ⟨.slice 80, 1, 24, [.slice none 0 0]⟩ := by kernel_rfl
theorem ti24 : tiOf Try.prog 24 = some ⟨.struct [(0, 1), (1, 1)], 2, 48, [.slice none 0 0, .slice none 0 0]⟩ := by kernel_rfl
theorem ti25 : tiOf Try.prog 25 = some ⟨.struct [(0, 1), (1, 1)], 2, 48, [.slice none 0 0, .slice none 0 0]⟩ := by kernel_rfl
theorem ti28 : tiOf Try.prog 28 = some ⟨.int .i64, 1, 8, [.int .i64 0]⟩ := by kernel_rfl
theorem ti37 : tiOf Try.prog 37 = some ⟨.struct [(0, 2), (2, 1), (3, 1), (4, 1), (5, 1)], 6, 96, [.slice none 0 0, .slice none 0 0, .int .i64 0, .int .i64 0, .slice none 0 0, .int .i64 0]⟩ := by kernel_rfl
theorem ti38 : tiOf Try.prog 38 = some ⟨.struct [(0, 2), (2, 1), (3, 1), (4, 1), (5, 1)], 6, 96, [.slice none 0 0, .slice none 0 0, .int .i64 0, .int .i64 0, .slice none 0 0, .int .i64 0]⟩ := by kernel_rfl
theorem ti46 : tiOf Try.prog 46 = some ⟨.struct [(0, 2), (2, 1), (3, 1), (4, 1), (5, 1)], 6, 112, [.slice none 0 0, .slice none 0 0, .int .i64 0, .int .i64 0, .slice none 0 0, .slice none 0 0]⟩ := by kernel_rfl
theorem ti47 : tiOf Try.prog 47 = some ⟨.struct [(0, 2), (2, 1), (3, 1), (4, 1), (5, 1)], 6, 112, [.slice none 0 0, .slice none 0 0, .int .i64 0, .int .i64 0, .slice none 0 0, .slice none 0 0]⟩ := by kernel_rfl
theorem ti49 : tiOf Try.prog 49 = some ⟨.struct [(0, 2), (2, 2), (4, 1), (5, 1)], 6, 112, [.slice none 0 0, .slice none 0 0, .slice none 0 0, .slice none 0 0, .int .i64 0, .int .i64 0]⟩ := by kernel_rfl
theorem ti50 : tiOf Try.prog 50 = some ⟨.struct [(0, 2), (2, 2), (4, 1), (5, 1)], 6, 112, [.slice none 0 0, .slice none 0 0, .slice none 0 0, .slice none 0 0, .int .i64 0, .int .i64 0]⟩ := by kernel_rfl
theorem ti59 : tiOf Try.prog 59 = some ⟨.struct [(0, 2), (2, 1), (3, 1), (4, 1), (5, 1)], 6, 96, [.slice none 0 0, .slice none 0 0, .int .i64 0, .int .i64 0, .int .i64 0, .slice none 0 0]⟩ := by kernel_rfl
theorem ti60 : tiOf Try.prog 60 = some ⟨.struct [(0, 2), (2, 1), (3, 1), (4, 1), (5, 1)], 6, 96, [.slice none 0 0, .slice none 0 0, .int .i64 0, .int .i64 0, .int .i64 0, .slice none 0 0]⟩ := by kernel_rfl
theorem ti66 : tiOf Try.prog 66 = some ⟨.int .u16, 1, 2, [.int .u16 0]⟩ := by kernel_rfl
theorem ti67 : tiOf Try.prog 67 = some ⟨.struct [(0, 2), (2, 1), (3, 1), (4, 1), (5, 1)], 6, 64, [.slice none 0 0, .slice none 0 0, .int .u16 0, .int .u16 0, .int .u8 0, .int .i64 0]⟩ := by kernel_rfl
theorem ti68 : tiOf Try.prog 68 = some ⟨.struct [(0, 2), (2, 1), (3, 1), (4, 1), (5, 1)], 6, 64, [.slice none 0 0, .slice none 0 0, .int .u16 0, .int .u16 0, .int .u8 0, .int .i64 0]⟩ := by kernel_rfl
theorem ti70 : tiOf Try.prog 70 = some ⟨.slice 72, 1, 24, [.slice none 0 0]⟩ := by kernel_rfl
theorem ti71 : tiOf Try.prog 71 = some ⟨.struct [(0, 1), (1, 1), (2, 1), (3, 1), (4, 1)], 5, 56, [.int .u8 0, .int .i64 0, .int .i64 0, .int .i64 0, .slice none 0 0]⟩ := by kernel_rfl
theorem ti72 : tiOf Try.prog 72 = some ⟨.struct [(0, 1), (1, 1), (2, 1), (3, 1), (4, 1)], 5, 56, [.int .u8 0, .int .i64 0, .int .i64 0, .int .i64 0, .slice none 0 0]⟩ := by kernel_rfl
theorem ti79 : tiOf Try.prog 79 = some ⟨.struct [(0, 1), (1, 1)], 2, 32, [.int .i64 0, .slice none 0 0]⟩ := by kernel_rfl
theorem ti80 : tiOf Try.prog 80 = some ⟨.struct [(0, 1), (1, 1)], 2, 32, [.int .i64 0, .slice none 0 0]⟩ := by kernel_rfl
theorem ti93 : tiOf Try.prog 93 = some ⟨.array 8 5, 8, 8, [.int .u8 0, .int .u8 0, .int .u8 0, .int .u8 0, .int .u8 0, .int .u8 0, .int .u8 0, .int .u8 0]⟩ := by kernel_rfl
theorem ti94 : tiOf Try.prog 94 = some ⟨.int .u64, 1, 8, [.int .u64 0]⟩ := by kernel_rfl
theorem ti95 : tiOf Try.prog 95 = some ⟨.int .u64, 1, 8, [.int .u64 0]⟩ := by kernel_rfl
theorem ti98 : tiOf Try.prog 98 = some ⟨.int .u32, 1, 4, [.int .u32 0]⟩ := by kernel_rfl
theorem ti104 : tiOf Try.prog 104 = some ⟨.struct [(0, 1), (1, 1), (2, 1), (3, 1)], 4, 40, [.pointer none, .pointer none, .pointer none, .string ⟨#[]⟩]⟩ := by kernel_rfl
theorem ti105 : tiOf Try.prog 105 = some ⟨.struct [(0, 1), (1, 1), (2, 1), (3, 1)], 4, 40, [.pointer none, .pointer none, .pointer none, .string ⟨#[]⟩]⟩ := by kernel_rfl
theorem ti106 : tiOf Try.prog 106 = some ⟨.array 0 16, 0, 0, []⟩ := by kernel_rfl
theorem ti107 : tiOf Try.prog 107 = some ⟨.struct [(0, 0)], 0, 0, []⟩ := by kernel_rfl
theorem ti108 : tiOf Try.prog 108 = some ⟨.struct [(0, 0)], 0, 0, []⟩ := by kernel_rfl
theorem ti110 : tiOf Try.prog 110 = some ⟨.int .u8, 1, 1, [.int .u8 0]⟩ := by kernel_rfl
theorem ti111 : tiOf Try.prog 111 = some ⟨.int .u8, 1, 1, [.int .u8 0]⟩ := by kernel_rfl
theorem ti113 : tiOf Try.prog 113 = some ⟨.pointer 5, 1, 8, [.pointer none]⟩ := by kernel_rfl
theorem ti114 : tiOf Try.prog 114 = some ⟨.int .i32, 1, 4, [.int .i32 0]⟩ := by kernel_rfl
theorem ti115 : tiOf Try.prog 115 = some ⟨.int .i32, 1, 4, [.int .i32 0]⟩ := by kernel_rfl
theorem ti116 : tiOf Try.prog 116 = some ⟨.struct [(0, 1), (1, 1), (2, 1), (3, 1), (4, 1), (5, 1), (6, 1), (7, 1), (8, 1), (9, 1), (10, 1)], 11, 48, [.int .u64 0, .int .u64 0, .int .u32 0, .int .u8 0, .int .u8 0, .int .u8 0, .int .u8 0, .nilFunc, .pointer none, .int .i32 0, .int .i32 0]⟩ := by kernel_rfl
theorem ti117 : tiOf Try.prog 117 = some ⟨.struct [(0, 1), (1, 1), (2, 1), (3, 1), (4, 1), (5, 1), (6, 1), (7, 1), (8, 1), (9, 1), (10, 1)], 11, 48, [.int .u64 0, .int .u64 0, .int .u32 0, .int .u8 0, .int .u8 0, .int .u8 0, .int .u8 0, .nilFunc, .pointer none, .int .i32 0, .int .i32 0]⟩ := by kernel_rfl
def ttL : List (Nat × TI) := [
  (2, ⟨.int .i64, 1, 8, [.int .i64 0]⟩),
  (3, ⟨.int .i64, 1, 8, [.int .i64 0]⟩),
  (4, ⟨.bool, 1, 1, [.bool false]⟩),
  (5, ⟨.int .u8, 1, 1, [.int .u8 0]⟩),
  (6, ⟨.int .u8, 1, 1, [.int .u8 0]⟩),
  (7, ⟨.struct [(0, 1), (1, 1), (2, 1), (3, 1)], 4, 24, [.int .i64 0, .int .i64 0, .bool false, .int .u8 0]⟩),
  (8, ⟨.struct [(0, 1), (1, 1), (2, 1), (3, 1)], 4, 24, [.int .i64 0, .int .i64 0, .bool false, .int .u8 0]⟩),
  (9, ⟨.str, 1, 16, [.string ⟨#[]⟩]⟩),
  (10, ⟨.str, 1, 16, [.string ⟨#[]⟩]⟩),
  (11, ⟨.str, 1, 16, [.string ⟨#[]⟩]⟩),
  (12, ⟨.int .u64, 1, 8, [.int .u64 0]⟩),
  (13, ⟨.struct [(0, 1), (1, 1)], 2, 24, [.string ⟨#[]⟩, .int .u64 0]⟩),
  (14, ⟨.struct [(0, 1), (1, 1)], 2, 24, [.string ⟨#[]⟩, .int .u64 0]⟩),
  (15, ⟨.pointer 105, 1, 8, [.pointer none]⟩),
  (16, ⟨.pointer 108, 1, 8, [.pointer none]⟩),
  (17, ⟨.pointer 117, 1, 8, [.pointer none]⟩),
  (18, ⟨.struct [(0, 1)], 1, 8, [.pointer none]⟩),
  (19, ⟨.struct [(0, 1)], 1, 8, [.pointer none]⟩),
  (21, ⟨.int .i32, 1, 4, [.int .i32 0]⟩),
  (22, ⟨.slice 5, 1, 24, [.slice none 0 0]⟩),
  (23, ⟨.slice 80, 1, 24, [.slice none 0 0]⟩),
  (24, ⟨.struct [(0, 1), (1, 1)], 2, 48, [.slice none 0 0, .slice none 0 0]⟩),
  (25, ⟨.struct [(0, 1), (1, 1)], 2, 48, [.slice none 0 0, .slice none 0 0]⟩),
  (28, ⟨.int .i64, 1, 8, [.int .i64 0]⟩),
  (37, ⟨.struct [(0, 2), (2, 1), (3, 1), (4, 1), (5, 1)], 6, 96, [.slice none 0 0, .slice none 0 0, .int .i64 0, .int .i64 0, .slice none 0 0, .int .i64 0]⟩),
  (38, ⟨.struct [(0, 2), (2, 1), (3, 1), (4, 1), (5, 1)], 6, 96, [.slice none 0 0, .slice none 0 0, .int .i64 0, .int .i64 0, .slice none 0 0, .int .i64 0]⟩),
  (46, ⟨.struct [(0, 2), (2, 1), (3, 1), (4, 1), (5, 1)], 6, 112, [.slice none 0 0, .slice none 0 0, .int .i64 0, .int .i64 0, .slice none 0 0, .slice none 0 0]⟩),
  (47, ⟨.struct [(0, 2), (2, 1), (3, 1), (4, 1), (5, 1)], 6, 112, [.slice none 0 0, .slice none 0 0, .int .i64 0, .int .i64 0, .slice none 0 0, .slice none 0 0]⟩),
  (49, ⟨.struct [(0, 2), (2, 2), (4, 1), (5, 1)], 6, 112, [.slice none 0 0, .slice none 0 0, .slice none 0 0, .slice none 0 0, .int .i64 0, .int .i64 0]⟩),
  (50, ⟨.struct [(0, 2), (2, 2), (4, 1), (5, 1)], 6, 112, [.slice none 0 0, .slice none 0 0, .slice none 0 0, .slice none 0 0, .int .i64 0, .int .i64 0]⟩),
  (59, ⟨.struct [(0, 2), (2, 1), (3, 1), (4, 1), (5, 1)], 6, 96, [.slice none 0 0, .slice none 0 0, .int .i64 0, .int .i64 0, .int .i64 0, .slice none 0 0]⟩),
  (60, ⟨.struct [(0, 2), (2, 1), (3, 1), (4, 1), (5, 1)], 6, 96, [.slice none 0 0, .slice none 0 0, .int .i64 0, .int .i64 0, .int .i64 0, .slice none 0 0]⟩),
  (66, ⟨.int .u16, 1, 2, [.int .u16 0]⟩),
  (67, ⟨.struct [(0, 2), (2, 1), (3, 1), (4, 1), (5, 1)], 6, 64, [.slice none 0 0, .slice none 0 0, .int .u16 0, .int .u16 0, .int .u8 0, .int .i64 0]⟩),
  (68, ⟨.struct [(0, 2), (2, 1), (3, 1), (4, 1), (5, 1)], 6, 64, [.slice none 0 0, .slice none 0 0, .int .u16 0, .int .u16 0, .int .u8 0, .int .i64 0]⟩),
  (70, ⟨.slice 72, 1, 24, [.slice none 0 0]⟩),
  (71, ⟨.struct [(0, 1), (1, 1), (2, 1), (3, 1), (4, 1)], 5, 56, [.int .u8 0, .int .i64 0, .int .i64 0, .int .i64 0, .slice none 0 0]⟩),
  (72, ⟨.struct [(0, 1), (1, 1), (2, 1), (3, 1), (4, 1)], 5, 56, [.int .u8 0, .int .i64 0, .int .i64 0, .int .i64 0, .slice none 0 0]⟩),
  (79, ⟨.struct [(0, 1), (1, 1)], 2, 32, [.int .i64 0, .slice none 0 0]⟩),
  (80, ⟨.struct [(0, 1), (1, 1)], 2, 32, [.int .i64 0, .slice none 0 0]⟩),
  (93, ⟨.array 8 5, 8, 8, [.int .u8 0, .int .u8 0, .int .u8 0, .int .u8 0, .int .u8 0, .int .u8 0, .int .u8 0, .int .u8 0]⟩),
  (94, ⟨.int .u64, 1, 8, [.int .u64 0]⟩),
  (95, ⟨.int .u64, 1, 8, [.int .u64 0]⟩),
  (98, ⟨.int .u32, 1, 4, [.int .u32 0]⟩),
  (104, ⟨.struct [(0, 1), (1, 1), (2, 1), (3, 1)], 4, 40, [.pointer none, .pointer none, .pointer none, .string ⟨#[]⟩]⟩),
  (105, ⟨.struct [(0, 1), (1, 1), (2, 1), (3, 1)], 4, 40, [.pointer none, .pointer none, .pointer none, .string ⟨#[]⟩]⟩),
  (106, ⟨.array 0 16, 0, 0, []⟩),
  (107, ⟨.struct [(0, 0)], 0, 0, []⟩),
  (108, ⟨.struct [(0, 0)], 0, 0, []⟩),
  (110, ⟨.int .u8, 1, 1, [.int .u8 0]⟩),
  (111, ⟨.int .u8, 1, 1, [.int .u8 0]⟩),
  (113, ⟨.pointer 5, 1, 8, [.pointer none]⟩),
  (114, ⟨.int .i32, 1, 4, [.int .i32 0]⟩),
  (115, ⟨.int .i32, 1, 4, [.int .i32 0]⟩),
  (116, ⟨.struct [(0, 1), (1, 1), (2, 1), (3, 1), (4, 1), (5, 1), (6, 1), (7, 1), (8, 1), (9, 1), (10, 1)], 11, 48, [.int .u64 0, .int .u64 0, .int .u32 0, .int .u8 0, .int .u8 0, .int .u8 0, .int .u8 0, .nilFunc, .pointer none, .int .i32 0, .int .i32 0]⟩),
  (117, ⟨.struct [(0, 1), (1, 1), (2, 1), (3, 1), (4, 1), (5, 1), (6, 1), (7, 1), (8, 1), (9, 1), (10, 1)], 11, 48, [.int .u64 0, .int .u64 0, .int .u32 0, .int .u8 0, .int .u8 0, .int .u8 0, .int .u8 0, .nilFunc, .pointer none, .int .i32 0, .int .i32 0]⟩)]
def tt : Nat → Option TI := lkT ttL
theorem tok : ∀ t ti, tt t = some ti → tiOf Try.prog t = some ti := lkT_ok Try.prog ttL ⟨ti2, ti3, ti4, ti5, ti6, ti7, ti8, ti9, ti10, ti11, ti12, ti13, ti14, ti15, ti16, ti17, ti18, ti19, ti21, ti22, ti23, ti24, ti25, ti28, ti37, ti38, ti46, ti47, ti49, ti50, ti59, ti60, ti66, ti67, ti68, ti70, ti71, ti72, ti79, ti80, ti93, ti94, ti95, ti98, ti104, ti105, ti106, ti107, ti108, ti110, ti111, ti113, ti114, ti115, ti116, ti117, trivial⟩
theorem hmix : Try.prog.follows .mixedOrders = true := by kernel_rfl
end Go.Proofs.Ytpdnbhimmfhaaaa
