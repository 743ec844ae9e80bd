/- The table of types, as the walks use it. Printed by gent.py. -/
import Derived.Test.YtpolenndeeaodacProg
import Derived.Test.YtpolenndeeaodacA1
import Derived.KernelRfl
namespace Go.Proofs.Ytpolenndeeaodac
open Go
theorem ti2 : tiOf Try.prog 2 = some ⟨.int .i64, 1, 8, [.int .i64 0]⟩ := by kernel_rfl
theorem ti3 : tiOf Try.prog 3 = some ⟨.int .i64, 1, 8, [.int .i64 0]⟩ := by kernel_rfl
theorem ti4 : tiOf Try.prog 4 = some ⟨.bool, 1, 1, [.bool false]⟩ := by kernel_rfl
theorem ti5 : tiOf Try.prog 5 = some ⟨.int .u8, 1, 1, [.int .u8 0]⟩ := by kernel_rfl
theorem ti6 : tiOf Try.prog 6 = some ⟨.int .u8, 1, 1, [.int .u8 0]⟩ := by kernel_rfl
theorem ti7 : tiOf Try.prog 7 = some ⟨.struct [(0, 1), (1, 1), (2, 1), (3, 1)], 4, 24, [.int .i64 0, .int .i64 0, .bool false, .int .u8 0]⟩ := by kernel_rfl
theorem ti8 : tiOf Try.prog 8 = some ⟨.struct [(0, 1), (1, 1), (2, 1), (3, 1)], 4, 24, [.int .i64 0, .int .i64 0, .bool false, .int .u8 0]⟩ := by kernel_rfl
theorem ti9 : tiOf Try.prog 9 = some ⟨.str, 1, 16, [.string ⟨#[]⟩]⟩ := by kernel_rfl
theorem ti10 : tiOf Try.prog 10 = some ⟨.str, 1, 16, [.string ⟨#[]⟩]⟩ := by kernel_rfl
theorem ti11 : tiOf Try.prog 11 = some ⟨.str, 1, 16, [.string ⟨#[]⟩]⟩ := by kernel_rfl
theorem ti12 : tiOf Try.prog 12 = some ⟨.int .u64, 1, 8, [.int .u64 0]⟩ := by kernel_rfl
theorem ti13 : tiOf Try.prog 13 = some ⟨.struct [(0, 1), (1, 1)], 2, 24, [.string ⟨#[]⟩, .int .u64 0]⟩ := by kernel_rfl
theorem ti14 : tiOf Try.prog 14 = some ⟨.struct [(0, 1), (1, 1)], 2, 24, [.string ⟨#[]⟩, .int .u64 0]⟩ := by kernel_rfl
theorem ti15 : tiOf Try.prog 15 = some ⟨.pointer 66, 1, 8, [.pointer none]⟩ := by kernel_rfl
theorem ti16 : tiOf Try.prog 16 = some ⟨.pointer 69, 1, 8, [.pointer none]⟩ := by kernel_rfl
theorem ti17 : tiOf Try.prog 17 = some ⟨.pointer 79, 1, 8, [.pointer none]⟩ := by kernel_rfl
theorem ti18 : tiOf Try.prog 18 = some ⟨.struct [(0, 1)], 1, 8, [.pointer none]⟩ := by kernel_rfl
theorem ti19 : tiOf Try.prog 19 = some ⟨.struct [(0, 1)], 1, 8, [.pointer none]⟩ := by kernel_rfl
theorem ti21 : tiOf Try.prog 21 = some ⟨.int .i32, 1, 4, [.int .i32 0]⟩ := by kernel_rfl
theorem ti22 : tiOf Try.prog 22 = some ⟨.slice 3, 1, 24, [.slice none 0 0]⟩ := by kernel_rfl
theorem ti23 : tiOf Try.prog 23 = some ⟨.struct [(0, 1), (1, 1), (2, 1), (3, 1)], 4, 56, [.slice none 0 0, .int .i64 0, .int .i64 0, .string ⟨#[]⟩]⟩ := by kernel_rfl
theorem ti24 : tiOf Try.prog 24 = some ⟨.struct [(0, 1), (1, 1), (2, 1), (3, 1)], 4, 56, [.slice none 0 0, .int .i64 0, .int .i64 0, .string ⟨#[]⟩]⟩ := by kernel_rfl
theorem ti26 : tiOf Try.prog 26 = some ⟨.int .i64, 1, 8, [.int .i64 0]⟩ := by kernel_rfl
theorem ti36 : tiOf Try.prog 36 = some ⟨.slice 9, 1, 24, [.slice none 0 0]⟩ := by kernel_rfl
theorem ti47 : tiOf Try.prog 47 = some ⟨.array 2 9, 2, 32, [.string ⟨#[]⟩, .string ⟨#[]⟩]⟩ := by kernel_rfl
theorem ti48 : tiOf Try.prog 48 = some ⟨.slice 47, 1, 24, [.slice none 0 0]⟩ := by kernel_rfl
theorem ti54 : tiOf Try.prog 54 = some ⟨.struct [(0, 1), (1, 1)], 2, 24, [.int .i64 0, .string ⟨#[]⟩]⟩ := by kernel_rfl
theorem ti55 : tiOf Try.prog 55 = some ⟨.struct [(0, 1), (1, 1)], 2, 24, [.int .i64 0, .string ⟨#[]⟩]⟩ := by kernel_rfl
theorem ti57 : tiOf Try.prog 57 = some ⟨.map 9 55, 1, 8, [.map none]⟩ := by kernel_rfl
theorem ti62 : tiOf Try.prog 62 = some ⟨.slice 22, 1, 24, [.slice none 0 0]⟩ := by kernel_rfl
theorem ti65 : tiOf Try.prog 65 = some ⟨.struct [(0, 1), (1, 1), (2, 1), (3, 1)], 4, 40, [.pointer none, .pointer none, .pointer none, .string ⟨#[]⟩]⟩ := by kernel_rfl
theorem ti66 : tiOf Try.prog 66 = some ⟨.struct [(0, 1), (1, 1), (2, 1), (3, 1)], 4, 40, [.pointer none, .pointer none, .pointer none, .string ⟨#[]⟩]⟩ := by kernel_rfl
theorem ti67 : tiOf Try.prog 67 = some ⟨.array 0 16, 0, 0, []⟩ := by kernel_rfl
theorem ti68 : tiOf Try.prog 68 = some ⟨.struct [(0, 0)], 0, 0, []⟩ := by kernel_rfl
theorem ti69 : tiOf Try.prog 69 = some ⟨.struct [(0, 0)], 0, 0, []⟩ := by kernel_rfl
theorem ti71 : tiOf Try.prog 71 = some ⟨.int .u32, 1, 4, [.int .u32 0]⟩ := by kernel_rfl
theorem ti72 : tiOf Try.prog 72 = some ⟨.int .u8, 1, 1, [.int .u8 0]⟩ := by kernel_rfl
theorem ti73 : tiOf Try.prog 73 = some ⟨.int .u8, 1, 1, [.int .u8 0]⟩ := by kernel_rfl
theorem ti75 : tiOf Try.prog 75 = some ⟨.pointer 5, 1, 8, [.pointer none]⟩ := by kernel_rfl
theorem ti76 : tiOf Try.prog 76 = some ⟨.int .i32, 1, 4, [.int .i32 0]⟩ := by kernel_rfl
theorem ti77 : tiOf Try.prog 77 = some ⟨.int .i32, 1, 4, [.int .i32 0]⟩ := by kernel_rfl
theorem ti78 : tiOf Try.prog 78 = some ⟨.struct [(0, 1), (1, 1), (2, 1), (3, 1), (4, 1), (5, 1), (6, 1), (7, 1), (8, 1), (9, 1), (10, 1)], 11, 48, [.int .u64 0, .int .u64 0, .int .u32 0, .int .u8 0, .int .u8 0, .int .u8 0, .int .u8 0, .nilFunc, .pointer none, .int .i32 0, .int .i32 0]⟩ := by kernel_rfl
theorem ti79 : tiOf Try.prog 79 = some ⟨.struct [(0, 1), (1, 1), (2, 1), (3, 1), (4, 1), (5, 1), (6, 1), (7, 1), (8, 1), (9, 1), (10, 1)], 11, 48, [.int .u64 0, .int .u64 0, .int .u32 0, .int .u8 0, .int .u8 0, .int .u8 0, .int .u8 0, .nilFunc, .pointer none, .int .i32 0, .int .i32 0]⟩ := by kernel_rfl
def ttL : List (Nat × TI) := [
  (2, ⟨.int .i64, 1, 8, [.int .i64 0]⟩),
  (3, ⟨.int .i64, 1, 8, [.int .i64 0]⟩),
  (4, ⟨.bool, 1, 1, [.bool false]⟩),
  (5, ⟨.int .u8, 1, 1, [.int .u8 0]⟩),
  (6, ⟨.int .u8, 1, 1, [.int .u8 0]⟩),
  (7, ⟨.struct [(0, 1), (1, 1), (2, 1), (3, 1)], 4, 24, [.int .i64 0, .int .i64 0, .bool false, .int .u8 0]⟩),
  (8, ⟨.struct [(0, 1), (1, 1), (2, 1), (3, 1)], 4, 24, [.int .i64 0, .int .i64 0, .bool false, .int .u8 0]⟩),
  (9, ⟨.str, 1, 16, [.string ⟨#[]⟩]⟩),
  (10, ⟨.str, 1, 16, [.string ⟨#[]⟩]⟩),
  (11, ⟨.str, 1, 16, [.string ⟨#[]⟩]⟩),
  (12, ⟨.int .u64, 1, 8, [.int .u64 0]⟩),
  (13, ⟨.struct [(0, 1), (1, 1)], 2, 24, [.string ⟨#[]⟩, .int .u64 0]⟩),
  (14, ⟨.struct [(0, 1), (1, 1)], 2, 24, [.string ⟨#[]⟩, .int .u64 0]⟩),
  (15, ⟨.pointer 66, 1, 8, [.pointer none]⟩),
  (16, ⟨.pointer 69, 1, 8, [.pointer none]⟩),
  (17, ⟨.pointer 79, 1, 8, [.pointer none]⟩),
  (18, ⟨.struct [(0, 1)], 1, 8, [.pointer none]⟩),
  (19, ⟨.struct [(0, 1)], 1, 8, [.pointer none]⟩),
  (21, ⟨.int .i32, 1, 4, [.int .i32 0]⟩),
  (22, ⟨.slice 3, 1, 24, [.slice none 0 0]⟩),
  (23, ⟨.struct [(0, 1), (1, 1), (2, 1), (3, 1)], 4, 56, [.slice none 0 0, .int .i64 0, .int .i64 0, .string ⟨#[]⟩]⟩),
  (24, ⟨.struct [(0, 1), (1, 1), (2, 1), (3, 1)], 4, 56, [.slice none 0 0, .int .i64 0, .int .i64 0, .string ⟨#[]⟩]⟩),
  (26, ⟨.int .i64, 1, 8, [.int .i64 0]⟩),
  (36, ⟨.slice 9, 1, 24, [.slice none 0 0]⟩),
  (47, ⟨.array 2 9, 2, 32, [.string ⟨#[]⟩, .string ⟨#[]⟩]⟩),
  (48, ⟨.slice 47, 1, 24, [.slice none 0 0]⟩),
  (54, ⟨.struct [(0, 1), (1, 1)], 2, 24, [.int .i64 0, .string ⟨#[]⟩]⟩),
  (55, ⟨.struct [(0, 1), (1, 1)], 2, 24, [.int .i64 0, .string ⟨#[]⟩]⟩),
  (57, ⟨.map 9 55, 1, 8, [.map none]⟩),
  (62, ⟨.slice 22, 1, 24, [.slice none 0 0]⟩),
  (65, ⟨.struct [(0, 1), (1, 1), (2, 1), (3, 1)], 4, 40, [.pointer none, .pointer none, .pointer none, .string ⟨#[]⟩]⟩),
  (66, ⟨.struct [(0, 1), (1, 1), (2, 1), (3, 1)], 4, 40, [.pointer none, .pointer none, .pointer none, .string ⟨#[]⟩]⟩),
  (67, ⟨.array 0 16, 0, 0, []⟩),
  (68, ⟨.struct [(0, 0)], 0, 0, []⟩),
  (69, ⟨.struct [(0, 0)], 0, 0, []⟩),
  (71, ⟨.int .u32, 1, 4, [.int .u32 0]⟩),
  (72, ⟨.int .u8, 1, 1, [.int .u8 0]⟩),
  (73, ⟨.int .u8, 1, 1, [.int .u8 0]⟩),
  (75, ⟨.pointer 5, 1, 8, [.pointer none]⟩),
  (76, ⟨.int .i32, 1, 4, [.int .i32 0]⟩),
  (77, ⟨.int .i32, 1, 4, [.int .i32 0]⟩),
  (78, ⟨.struct [(0, 1), (1, 1), (2, 1), (3, 1), (4, 1), (5, 1), (6, 1), (7, 1), (8, 1), (9, 1), (10, 1)], 11, 48, [.int .u64 0, .int .u64 0, .int .u32 0, .int .u8 0, .int .u8 0, .int .u8 0, .int .u8 0, .nilFunc, .pointer none, .int .i32 0, .int .i32 0]⟩),
  (79, ⟨.struct [(0, 1), (1, 1), (2, 1), (3, 1), (4, 1), (5, 1), (6, 1), (7, 1), (8, 1), (9, 1), (10, 1)], 11, 48, [.int .u64 0, .int .u64 0, .int .u32 0, .int .u8 0, .int .u8 0, .int .u8 0, .int .u8 0, .nilFunc, .pointer none, .int .i32 0, .int .i32 0]⟩)]
def tt : Nat → Option TI := lkT ttL
theorem tok : ∀ t ti, tt t = some ti → tiOf Try.prog t = some ti := lkT_ok Try.prog ttL ⟨ti2, ti3, ti4, ti5, ti6, ti7, ti8, ti9, ti10, ti11, ti12, ti13, ti14, ti15, ti16, ti17, ti18, ti19, ti21, ti22, ti23, ti24, ti26, ti36, ti47, ti48, ti54, ti55, ti57, ti62, ti65, ti66, ti67, ti68, ti69, ti71, ti72, ti73, ti75, ti76, ti77, ti78, ti79, trivial⟩
theorem hmix : Try.prog.follows .mixedOrders = true := by kernel_rfl
end Go.Proofs.Ytpolenndeeaodac
