/- The table of types, as the walks use it. Printed by gent.py. -/
import Derived.Test.YtpolenndeeaodaaProg
import Derived.Test.YtpolenndeeaodaaA1
import Derived.KernelRfl
namespace Go.Proofs.Ytpolenndeeaodaa
open Go
theorem ti2 : tiOf Try.prog 2 = some ⟨.int .i64, 1, 8, [.int .i64 0]⟩ := by kernel_rfl
theorem ti3 : tiOf Try.prog 3 = some ⟨.int .i64, 1, 8, [.int .i64 0]⟩ := by kernel_rfl
theorem ti4 : tiOf Try.prog 4 = some ⟨.bool, 1, 1, [.bool false]⟩ := by kernel_rfl
theorem ti5 : tiOf Try.prog 5 = some ⟨.int .u8, 1, 1, [.int .u8 0]⟩ := by kernel_rfl
theorem ti6 : tiOf Try.prog 6 = some ⟨.int .u8, 1, 1, [.int .u8 0]⟩ := by kernel_rfl
theorem ti7 : tiOf Try.prog 7 = some ⟨.struct [(0, 1), (1, 1), (2, 1), (3, 1)], 4, 24, [.int .i64 0, .int .i64 0, .bool false, .int .u8 0]⟩ := by kernel_rfl
theorem ti8 : tiOf Try.prog 8 = some ⟨.struct [(0, 1), (1, 1), (2, 1), (3, 1)], 4, 24, [.int .i64 0, .int .i64 0, .bool false, .int .u8 0]⟩ := by kernel_rfl
theorem ti9 : tiOf Try.prog 9 = some ⟨.str, 1, 16, [.string ⟨#[]⟩]⟩ := by kernel_rfl
theorem ti10 : tiOf Try.prog 10 = some ⟨.str, 1, 16, [.string ⟨#[]⟩]⟩ := by kernel_rfl
theorem ti11 : tiOf Try.prog 11 = some ⟨.str, 1, 16, [.string ⟨#[]⟩]⟩ := by kernel_rfl
theorem ti12 : tiOf Try.prog 12 = some ⟨.int .u64, 1, 8, [.int .u64 0]⟩ := by kernel_rfl
theorem ti13 : tiOf Try.prog 13 = some ⟨.struct [(0, 1), (1, 1)], 2, 24, [.string ⟨#[]⟩, .int .u64 0]⟩ := by kernel_rfl
theorem ti14 : tiOf Try.prog 14 = some ⟨.struct [(0, 1), (1, 1)], 2, 24, [.string ⟨#[]⟩, .int .u64 0]⟩ := by kernel_rfl
theorem ti15 : tiOf Try.prog 15 = some ⟨.pointer 80, 1, 8, [.pointer none]⟩ := by kernel_rfl
theorem ti16 : tiOf Try.prog 16 = some ⟨.pointer 83, 1, 8, [.pointer none]⟩ := by kernel_rfl
theorem ti17 : tiOf Try.prog 17 = some ⟨.pointer 92, 1, 8, [.pointer none]⟩ := by kernel_rfl
theorem ti18 : tiOf Try.prog 18 = some ⟨.struct [(0, 1)], 1, 8, [.pointer none]⟩ := by kernel_rfl
theorem ti19 : tiOf Try.prog 19 = some ⟨.struct [(0, 1)], 1, 8, [.pointer none]⟩ := by kernel_rfl
theorem ti21 : tiOf Try.prog 21 = some ⟨.int .i32, 1, 4, [.int .i32 0]⟩ := by kernel_rfl
theorem ti22 : tiOf Try.prog 22 = some ⟨.slice 5, 1, 24, [.slice none 0 0]⟩ := by kernel_rfl
theorem ti23 : tiOf Try.prog 23 = some ⟨.slice 67, 1, 24, [.slice none 0 0]⟩ := by kernel_rfl
theorem ti24 : tiOf Try.prog 24 = some ⟨.struct [(0, 1), (1, 1)], 2, 48, [.slice none 0 0, .slice none 0 0]⟩ := by kernel_rfl
theorem ti25 : tiOf Try.prog 25 = some ⟨.struct [(0, 1), (1, 1)], 2, 48, [.slice none 0 0, .slice none 0 0]⟩ := by kernel_rfl
theorem ti26 : tiOf Try.prog 26 = some ⟨.struct [(0, 2), (2, 1), (3, 1), (4, 1), (5, 1)], 6, 96, [.slice none 0 0, .slice none 0 0, .int .i64 0, .int .i64 0, .int .i64 0, .slice none 0 0]⟩ := by kernel_rfl
theorem ti27 : tiOf Try.prog 27 = some ⟨.struct [(0, 2), (2, 1), (3, 1), (4, 1), (5, 1)], 6, 96, [.slice none 0 0, .slice none 0 0, .int .i64 0, .int .i64 0, .int .i64 0, .slice none 0 0]⟩ := by kernel_rfl
theorem ti31 : tiOf Try.prog 31 = some ⟨.int .i64, 1, 8, [.int .i64 0]⟩ := by kernel_rfl
theorem ti46 : tiOf Try.prog 46 = some ⟨.slice 22, 1, 24, [.slice none 0 0]⟩ := by kernel_rfl
theorem ti48 : tiOf Try.prog 48 = some ⟨.struct [(0, 2), (2, 1), (3, 1), (4, 1)], 5, 72, [.slice none 0 0, .slice none 0 0, .int .i64 0, .int .i64 0, .int .i64 0]⟩ := by kernel_rfl
theorem ti49 : tiOf Try.prog 49 = some ⟨.struct [(0, 2), (2, 1), (3, 1), (4, 1)], 5, 72, [.slice none 0 0, .slice none 0 0, .int .i64 0, .int .i64 0, .int .i64 0]⟩ := by kernel_rfl
theorem ti51 : tiOf Try.prog 51 = some ⟨.struct [(0, 2), (2, 1), (3, 1), (4, 1)], 5, 72, [.slice none 0 0, .slice none 0 0, .int .i64 0, .int .i64 0, .int .i64 0]⟩ := by kernel_rfl
theorem ti52 : tiOf Try.prog 52 = some ⟨.struct [(0, 2), (2, 1), (3, 1), (4, 1)], 5, 72, [.slice none 0 0, .slice none 0 0, .int .i64 0, .int .i64 0, .int .i64 0]⟩ := by kernel_rfl
theorem ti55 : tiOf Try.prog 55 = some ⟨.struct [(0, 2), (2, 1), (3, 1), (4, 1)], 5, 104, [.slice none 0 0, .slice none 0 0, .int .i64 0, .slice none 0 0, .slice none 0 0]⟩ := by kernel_rfl
theorem ti56 : tiOf Try.prog 56 = some ⟨.struct [(0, 2), (2, 1), (3, 1), (4, 1)], 5, 104, [.slice none 0 0, .slice none 0 0, .int .i64 0, .slice none 0 0, .slice none 0 0]⟩ := by kernel_rfl
theorem ti59 : tiOf Try.prog 59 = some ⟨.struct [(0, 2), (2, 1)], 3, 56, [.slice none 0 0, .slice none 0 0, .int .i64 0]⟩ := by kernel_rfl
theorem ti60 : tiOf Try.prog 60 = some ⟨.struct [(0, 2), (2, 1)], 3, 56, [.slice none 0 0, .slice none 0 0, .int .i64 0]⟩ := by kernel_rfl
theorem ti66 : tiOf Try.prog 66 = some ⟨.struct [(0, 1), (1, 1)], 2, 32, [.int .i64 0, .slice none 0 0]⟩ := by kernel_rfl
theorem ti67 : tiOf Try.prog 67 = some ⟨.struct [(0, 1), (1, 1)], 2, 32, [.int .i64 0, .slice none 0 0]⟩ := by kernel_rfl
theorem ti76 : tiOf Try.prog 76 = some ⟨.array 8 5, 8, 8, [.int .u8 0, .int .u8 0, .int .u8 0, .int .u8 0, .int .u8 0, .int .u8 0, .int .u8 0, .int .u8 0]⟩ := by kernel_rfl
theorem ti77 : tiOf Try.prog 77 = some ⟨.int .u64, 1, 8, [.int .u64 0]⟩ := by kernel_rfl
theorem ti79 : tiOf Try.prog 79 = some ⟨.struct [(0, 1), (1, 1), (2, 1), (3, 1)], 4, 40, [.pointer none, .pointer none, .pointer none, .string ⟨#[]⟩]⟩ := by kernel_rfl
theorem ti80 : tiOf Try.prog 80 = some ⟨.struct [(0, 1), (1, 1), (2, 1), (3, 1)], 4, 40, [.pointer none, .pointer none, .pointer none, .string ⟨#[]⟩]⟩ := by kernel_rfl
theorem ti81 : tiOf Try.prog 81 = some ⟨.array 0 16, 0, 0, []⟩ := by kernel_rfl
theorem ti82 : tiOf Try.prog 82 = some ⟨.struct [(0, 0)], 0, 0, []⟩ := by kernel_rfl
theorem ti83 : tiOf Try.prog 83 = some ⟨.struct [(0, 0)], 0, 0, []⟩ := by kernel_rfl
theorem ti84 : tiOf Try.prog 84 = some ⟨.int .u32, 1, 4, [.int .u32 0]⟩ := by kernel_rfl
theorem ti85 : tiOf Try.prog 85 = some ⟨.int .u8, 1, 1, [.int .u8 0]⟩ := by kernel_rfl
theorem ti86 : tiOf Try.prog 86 = some ⟨.int .u8, 1, 1, [.int .u8 0]⟩ := by kernel_rfl
theorem ti88 : tiOf Try.prog 88 = some ⟨.pointer 5, 1, 8, [.pointer none]⟩ := by kernel_rfl
theorem ti89 : tiOf Try.prog 89 = some ⟨.int .i32, 1, 4, [.int .i32 0]⟩ := by kernel_rfl
theorem ti90 : tiOf Try.prog 90 = some ⟨.int .i32, 1, 4, [.int .i32 0]⟩ := by kernel_rfl
theorem ti91 : tiOf Try.prog 91 = some ⟨.struct [(0, 1), (1, 1), (2, 1), (3, 1), (4, 1), (5, 1), (6, 1), (7, 1), (8, 1), (9, 1), (10, 1)], 11, 48, [.int .u64 0, .int .u64 0, .int .u32 0, .int .u8 0, .int .u8 0, .int .u8 0, .int .u8 0, .nilFunc, .pointer none, .int .i32 0, .int .i32 0]⟩ := by kernel_rfl
theorem ti92 : tiOf Try.prog 92 = some ⟨.struct [(0, 1), (1, 1), (2, 1), (3, 1), (4, 1), (5, 1), (6, 1), (7, 1), (8, 1), (9, 1), (10, 1)], 11, 48, [.int .u64 0, .int .u64 0, .int .u32 0, .int .u8 0, .int .u8 0, .int .u8 0, .int .u8 0, .nilFunc, .pointer none, .int .i32 0, .int .i32 0]⟩ := by kernel_rfl
def ttL : List (Nat × TI) := [
  (2, ⟨.int .i64, 1, 8, [.int .i64 0]⟩),
  (3, ⟨.int .i64, 1, 8, [.int .i64 0]⟩),
  (4, ⟨.bool, 1, 1, [.bool false]⟩),
  (5, ⟨.int .u8, 1, 1, [.int .u8 0]⟩),
  (6, ⟨.int .u8, 1, 1, [.int .u8 0]⟩),
  (7, ⟨.struct [(0, 1), (1, 1), (2, 1), (3, 1)], 4, 24, [.int .i64 0, .int .i64 0, .bool false, .int .u8 0]⟩),
  (8, ⟨.struct [(0, 1), (1, 1), (2, 1), (3, 1)], 4, 24, [.int .i64 0, .int .i64 0, .bool false, .int .u8 0]⟩),
  (9, ⟨.str, 1, 16, [.string ⟨#[]⟩]⟩),
  (10, ⟨.str, 1, 16, [.string ⟨#[]⟩]⟩),
  (11, ⟨.str, 1, 16, [.string ⟨#[]⟩]⟩),
  (12, ⟨.int .u64, 1, 8, [.int .u64 0]⟩),
  (13, ⟨.struct [(0, 1), (1, 1)], 2, 24, [.string ⟨#[]⟩, .int .u64 0]⟩),
  (14, ⟨.struct [(0, 1), (1, 1)], 2, 24, [.string ⟨#[]⟩, .int .u64 0]⟩),
  (15, ⟨.pointer 80, 1, 8, [.pointer none]⟩),
  (16, ⟨.pointer 83, 1, 8, [.pointer none]⟩),
  (17, ⟨.pointer 92, 1, 8, [.pointer none]⟩),
  (18, ⟨.struct [(0, 1)], 1, 8, [.pointer none]⟩),
  (19, ⟨.struct [(0, 1)], 1, 8, [.pointer none]⟩),
  (21, ⟨.int .i32, 1, 4, [.int .i32 0]⟩),
  (22, ⟨.slice 5, 1, 24, [.slice none 0 0]⟩),
  (23, ⟨.slice 67, 1, 24, [.slice none 0 0]⟩),
  (24, ⟨.struct [(0, 1), (1, 1)], 2, 48, [.slice none 0 0, .slice none 0 0]⟩),
  (25, ⟨.struct [(0, 1), (1, 1)], 2, 48, [.slice none 0 0, .slice none 0 0]⟩),
  (26, ⟨.struct [(0, 2), (2, 1), (3, 1), (4, 1), (5, 1)], 6, 96, [.slice none 0 0, .slice none 0 0, .int .i64 0, .int .i64 0, .int .i64 0, .slice none 0 0]⟩),
  (27, ⟨.struct [(0, 2), (2, 1), (3, 1), (4, 1), (5, 1)], 6, 96, [.slice none 0 0, .slice none 0 0, .int .i64 0, .int .i64 0, .int .i64 0, .slice none 0 0]⟩),
  (31, ⟨.int .i64, 1, 8, [.int .i64 0]⟩),
  (46, ⟨.slice 22, 1, 24, [.slice none 0 0]⟩),
  (48, ⟨.struct [(0, 2), (2, 1), (3, 1), (4, 1)], 5, 72, [.slice none 0 0, .slice none 0 0, .int .i64 0, .int .i64 0, .int .i64 0]⟩),
  (49, ⟨.struct [(0, 2), (2, 1), (3, 1), (4, 1)], 5, 72, [.slice none 0 0, .slice none 0 0, .int .i64 0, .int .i64 0, .int .i64 0]⟩),
  (51, ⟨.struct [(0, 2), (2, 1), (3, 1), (4, 1)], 5, 72, [.slice none 0 0, .slice none 0 0, .int .i64 0, .int .i64 0, .int .i64 0]⟩),
  (52, ⟨.struct [(0, 2), (2, 1), (3, 1), (4, 1)], 5, 72, [.slice none 0 0, .slice none 0 0, .int .i64 0, .int .i64 0, .int .i64 0]⟩),
  (55, ⟨.struct [(0, 2), (2, 1), (3, 1), (4, 1)], 5, 104, [.slice none 0 0, .slice none 0 0, .int .i64 0, .slice none 0 0, .slice none 0 0]⟩),
  (56, ⟨.struct [(0, 2), (2, 1), (3, 1), (4, 1)], 5, 104, [.slice none 0 0, .slice none 0 0, .int .i64 0, .slice none 0 0, .slice none 0 0]⟩),
  (59, ⟨.struct [(0, 2), (2, 1)], 3, 56, [.slice none 0 0, .slice none 0 0, .int .i64 0]⟩),
  (60, ⟨.struct [(0, 2), (2, 1)], 3, 56, [.slice none 0 0, .slice none 0 0, .int .i64 0]⟩),
  (66, ⟨.struct [(0, 1), (1, 1)], 2, 32, [.int .i64 0, .slice none 0 0]⟩),
  (67, ⟨.struct [(0, 1), (1, 1)], 2, 32, [.int .i64 0, .slice none 0 0]⟩),
  (76, ⟨.array 8 5, 8, 8, [.int .u8 0, .int .u8 0, .int .u8 0, .int .u8 0, .int .u8 0, .int .u8 0, .int .u8 0, .int .u8 0]⟩),
  (77, ⟨.int .u64, 1, 8, [.int .u64 0]⟩),
  (79, ⟨.struct [(0, 1), (1, 1), (2, 1), (3, 1)], 4, 40, [.pointer none, .pointer none, .pointer none, .string ⟨#[]⟩]⟩),
  (80, ⟨.struct [(0, 1), (1, 1), (2, 1), (3, 1)], 4, 40, [.pointer none, .pointer none, .pointer none, .string ⟨#[]⟩]⟩),
  (81, ⟨.array 0 16, 0, 0, []⟩),
  (82, ⟨.struct [(0, 0)], 0, 0, []⟩),
  (83, ⟨.struct [(0, 0)], 0, 0, []⟩),
  (84, ⟨.int .u32, 1, 4, [.int .u32 0]⟩),
  (85, ⟨.int .u8, 1, 1, [.int .u8 0]⟩),
  (86, ⟨.int .u8, 1, 1, [.int .u8 0]⟩),
  (88, ⟨.pointer 5, 1, 8, [.pointer none]⟩),
  (89, ⟨.int .i32, 1, 4, [.int .i32 0]⟩),
  (90, ⟨.int .i32, 1, 4, [.int .i32 0]⟩),
  (91, ⟨.struct [(0, 1), (1, 1), (2, 1), (3, 1), (4, 1), (5, 1), (6, 1), (7, 1), (8, 1), (9, 1), (10, 1)], 11, 48, [.int .u64 0, .int .u64 0, .int .u32 0, .int .u8 0, .int .u8 0, .int .u8 0, .int .u8 0, .nilFunc, .pointer none, .int .i32 0, .int .i32 0]⟩),
  (92, ⟨.struct [(0, 1), (1, 1), (2, 1), (3, 1), (4, 1), (5, 1), (6, 1), (7, 1), (8, 1), (9, 1), (10, 1)], 11, 48, [.int .u64 0, .int .u64 0, .int .u32 0, .int .u8 0, .int .u8 0, .int .u8 0, .int .u8 0, .nilFunc, .pointer none, .int .i32 0, .int .i32 0]⟩)]
def tt : Nat → Option TI := lkT ttL
theorem tok : ∀ t ti, tt t = some ti → tiOf Try.prog t = some ti := lkT_ok Try.prog ttL ⟨ti2, ti3, ti4, ti5, ti6, ti7, ti8, ti9, ti10, ti11, ti12, ti13, ti14, ti15, ti16, ti17, ti18, ti19, ti21, ti22, ti23, ti24, ti25, ti26, ti27, ti31, ti46, ti48, ti49, ti51, ti52, ti55, ti56, ti59, ti60, ti66, ti67, ti76, ti77, ti79, ti80, ti81, ti82, ti83, ti84, ti85, ti86, ti88, ti89, ti90, ti91, ti92, trivial⟩
theorem hmix : Try.prog.follows .mixedOrders = true := by kernel_rfl
end Go.Proofs.Ytpolenndeeaodaa
