/- gT. -/
import Derived.Test.YtfphgelollhdhaaW1
import Derived.Test.YtfphgelollhdhaaW2
import Derived.Test.YtfphgelollhdhaaW3
import Derived.Test.YtfphgelollhdhaaW4
import Derived.Test.YtfphgelollhdhaaProg
import Derived.KernelRfl
set_option linter.unusedVariables false
set_option linter.unusedSimpArgs false
namespace Go.Proofs.Ytfphgelollhdhaa
open Go
theorem ti1 : tiOf Try.prog 1 = some ⟨.other, 1, 8, [.nilFunc]⟩ := by kernel_rfl
theorem ti2 : tiOf Try.prog 2 = some ⟨.int .i64, 1, 8, [.int .i64 0]⟩ := by kernel_rfl
theorem ti3 : tiOf Try.prog 3 = some ⟨.int .i64, 1, 8, [.int .i64 0]⟩ := by kernel_rfl
theorem ti4 : tiOf Try.prog 4 = some ⟨.bool, 1, 1, [.bool false]⟩ := by kernel_rfl
theorem ti5 : tiOf Try.prog 5 = some ⟨.int .u8, 1, 1, [.int .u8 0]⟩ := by kernel_rfl
theorem ti6 : tiOf Try.prog 6 = some ⟨.int .u8, 1, 1, [.int .u8 0]⟩ := by kernel_rfl
theorem ti7 : tiOf Try.prog 7 = some ⟨.struct [(0, 1), (1, 1), (2, 1), (3, 1)], 4, 24, [.int .i64 0, .int .i64 0, .bool false, .int .u8 0]⟩ := by kernel_rfl
theorem ti8 : tiOf Try.prog 8 = some ⟨.struct [(0, 1), (1, 1), (2, 1), (3, 1)], 4, 24, [.int .i64 0, .int .i64 0, .bool false, .int .u8 0]⟩ := by kernel_rfl
theorem ti9 : tiOf Try.prog 9 = some ⟨.str, 1, 16, [.string ⟨#[]⟩]⟩ := by kernel_rfl
theorem ti10 : tiOf Try.prog 10 = some ⟨.str, 1, 16, [.string ⟨#[]⟩]⟩ := by kernel_rfl
theorem ti11 : tiOf Try.prog 11 = some ⟨.str, 1, 16, [.string ⟨#[]⟩]⟩ := by kernel_rfl
theorem ti12 : tiOf Try.prog 12 = some ⟨.int .u64, 1, 8, [.int .u64 0]⟩ := by kernel_rfl
theorem ti13 : tiOf Try.prog 13 = some ⟨.struct [(0, 1), (1, 1)], 2, 24, [.string ⟨#[]⟩, .int .u64 0]⟩ := by kernel_rfl
theorem ti14 : tiOf Try.prog 14 = some ⟨.struct [(0, 1), (1, 1)], 2, 24, [.string ⟨#[]⟩, .int .u64 0]⟩ := by kernel_rfl
theorem ti15 : tiOf Try.prog 15 = some ⟨.pointer 59, 1, 8, [.pointer none]⟩ := by kernel_rfl
theorem ti16 : tiOf Try.prog 16 = some ⟨.pointer 62, 1, 8, [.pointer none]⟩ := by kernel_rfl
theorem ti17 : tiOf Try.prog 17 = some ⟨.pointer 71, 1, 8, [.pointer none]⟩ := by kernel_rfl
theorem ti18 : tiOf Try.prog 18 = some ⟨.struct [(0, 1)], 1, 8, [.pointer none]⟩ := by kernel_rfl
theorem ti19 : tiOf Try.prog 19 = some ⟨.struct [(0, 1)], 1, 8, [.pointer none]⟩ := by kernel_rfl
theorem ti21 : tiOf Try.prog 21 = some ⟨.int .i32, 1, 4, [.int .i32 0]⟩ := by kernel_rfl
theorem ti22 : tiOf Try.prog 22 = some ⟨.slice 39, 1, 24, [.slice none 0 0]⟩ := by kernel_rfl
theorem ti23 : tiOf Try.prog 23 = some ⟨.other, 1, 8, [.nilFunc]⟩ := by kernel_rfl
theorem ti24 : tiOf Try.prog 24 = some ⟨.other, 1, 8, [.nilFunc]⟩ := by kernel_rfl
theorem ti25 : tiOf Try.prog 25 = some ⟨.other, 1, 8, [.nilFunc]⟩ := by kernel_rfl
theorem ti26 : tiOf Try.prog 26 = some ⟨.other, 1, 8, [.nilFunc]⟩ := by kernel_rfl
theorem ti27 : tiOf Try.prog 27 = some ⟨.slice 3, 1, 24, [.slice none 0 0]⟩ := by kernel_rfl
theorem ti28 : tiOf Try.prog 28 = some ⟨.other, 1, 8, [.nilFunc]⟩ := by kernel_rfl
theorem ti29 : tiOf Try.prog 29 = some ⟨.other, 1, 8, [.nilFunc]⟩ := by kernel_rfl
theorem ti30 : tiOf Try.prog 30 = some ⟨.int .u16, 1, 2, [.int .u16 0]⟩ := by kernel_rfl
theorem ti31 : tiOf Try.prog 31 = some ⟨.other, 1, 8, [.nilFunc]⟩ := by kernel_rfl
theorem ti32 : tiOf Try.prog 32 = some ⟨.pointer 27, 1, 8, [.pointer none]⟩ := by kernel_rfl
theorem ti33 : tiOf Try.prog 33 = some ⟨.other, 1, 8, [.nilFunc]⟩ := by kernel_rfl
theorem ti34 : tiOf Try.prog 34 = some ⟨.other, 1, 8, [.nilFunc]⟩ := by kernel_rfl
theorem ti35 : tiOf Try.prog 35 = some ⟨.struct [(0, 1), (1, 1), (2, 1), (3, 1)], 4, 64, [.slice none 0 0, .slice none 0 0, .int .u16 0, .int .i64 0]⟩ := by kernel_rfl
theorem ti36 : tiOf Try.prog 36 = some ⟨.struct [(0, 1), (1, 1), (2, 1), (3, 1)], 4, 64, [.slice none 0 0, .slice none 0 0, .int .u16 0, .int .i64 0]⟩ := by kernel_rfl
theorem ti37 : tiOf Try.prog 37 = some ⟨.other, 1, 8, [.nilFunc]⟩ := by kernel_rfl
theorem ti38 : tiOf Try.prog 38 = some ⟨.struct [(0, 1), (1, 1), (2, 1), (3, 1)], 4, 64, [.int .i64 0, .int .i64 0, .slice none 0 0, .slice none 0 0]⟩ := by kernel_rfl
theorem ti39 : tiOf Try.prog 39 = some ⟨.struct [(0, 1), (1, 1), (2, 1), (3, 1)], 4, 64, [.int .i64 0, .int .i64 0, .slice none 0 0, .slice none 0 0]⟩ := by kernel_rfl
theorem ti40 : tiOf Try.prog 40 = some ⟨.other, 1, 8, [.nilFunc]⟩ := by kernel_rfl
theorem ti41 : tiOf Try.prog 41 = some ⟨.other, 1, 8, [.nilFunc]⟩ := by kernel_rfl
theorem ti42 : tiOf Try.prog 42 = some ⟨.other, 1, 8, [.nilFunc]⟩ := by kernel_rfl
theorem ti43 : tiOf Try.prog 43 = some ⟨.pointer 45, 1, 8, [.pointer none]⟩ := by kernel_rfl
theorem ti44 : tiOf Try.prog 44 = some ⟨.struct [(0, 1), (1, 1), (2, 1), (3, 1)], 4, 48, [.int .i64 0, .int .i64 0, .int .i64 0, .slice none 0 0]⟩ := by kernel_rfl
theorem ti45 : tiOf Try.prog 45 = some ⟨.struct [(0, 1), (1, 1), (2, 1), (3, 1)], 4, 48, [.int .i64 0, .int .i64 0, .int .i64 0, .slice none 0 0]⟩ := by kernel_rfl
theorem ti46 : tiOf Try.prog 46 = some ⟨.other, 1, 8, [.nilFunc]⟩ := by kernel_rfl
theorem ti47 : tiOf Try.prog 47 = some ⟨.other, 1, 8, [.nilFunc]⟩ := by kernel_rfl
theorem ti48 : tiOf Try.prog 48 = some ⟨.other, 1, 8, [.nilFunc]⟩ := by kernel_rfl
theorem ti49 : tiOf Try.prog 49 = some ⟨.other, 1, 8, [.nilFunc]⟩ := by kernel_rfl
theorem ti50 : tiOf Try.prog 50 = some ⟨.other, 1, 8, [.nilFunc]⟩ := by kernel_rfl
theorem ti51 : tiOf Try.prog 51 = some ⟨.slice 9, 1, 24, [.slice none 0 0]⟩ := by kernel_rfl
theorem ti52 : tiOf Try.prog 52 = some ⟨.other, 1, 8, [.nilFunc]⟩ := by kernel_rfl
theorem ti53 : tiOf Try.prog 53 = some ⟨.other, 1, 8, [.nilFunc]⟩ := by kernel_rfl
theorem ti54 : tiOf Try.prog 54 = some ⟨.other, 1, 8, [.nilFunc]⟩ := by kernel_rfl
theorem ti55 : tiOf Try.prog 55 = some ⟨.other, 1, 8, [.nilFunc]⟩ := by kernel_rfl
theorem ti56 : tiOf Try.prog 56 = some ⟨.other, 1, 8, [.nilFunc]⟩ := by kernel_rfl
theorem ti57 : tiOf Try.prog 57 = some ⟨.other, 1, 8, [.nilFunc]⟩ := by kernel_rfl
theorem ti58 : tiOf Try.prog 58 = some ⟨.struct [(0, 1), (1, 1), (2, 1), (3, 1)], 4, 40, [.pointer none, .pointer none, .pointer none, .string ⟨#[]⟩]⟩ := by kernel_rfl
theorem ti59 : tiOf Try.prog 59 = some ⟨.struct [(0, 1), (1, 1), (2, 1), (3, 1)], 4, 40, [.pointer none, .pointer none, .pointer none, .string ⟨#[]⟩]⟩ := by kernel_rfl
theorem ti60 : tiOf Try.prog 60 = some ⟨.array 0 16, 0, 0, []⟩ := by kernel_rfl
theorem ti61 : tiOf Try.prog 61 = some ⟨.struct [(0, 0)], 0, 0, []⟩ := by kernel_rfl
theorem ti62 : tiOf Try.prog 62 = some ⟨.struct [(0, 0)], 0, 0, []⟩ := by kernel_rfl
theorem ti63 : tiOf Try.prog 63 = some ⟨.int .u32, 1, 4, [.int .u32 0]⟩ := by kernel_rfl
theorem ti64 : tiOf Try.prog 64 = some ⟨.int .u8, 1, 1, [.int .u8 0]⟩ := by kernel_rfl
theorem ti65 : tiOf Try.prog 65 = some ⟨.int .u8, 1, 1, [.int .u8 0]⟩ := by kernel_rfl
theorem ti66 : tiOf Try.prog 66 = some ⟨.other, 1, 8, [.nilFunc]⟩ := by kernel_rfl
theorem ti67 : tiOf Try.prog 67 = some ⟨.pointer 5, 1, 8, [.pointer none]⟩ := by kernel_rfl
theorem ti68 : tiOf Try.prog 68 = some ⟨.int .i32, 1, 4, [.int .i32 0]⟩ := by kernel_rfl
theorem ti69 : tiOf Try.prog 69 = some ⟨.int .i32, 1, 4, [.int .i32 0]⟩ := by kernel_rfl
theorem ti70 : tiOf Try.prog 70 = some ⟨.struct [(0, 1), (1, 1), (2, 1), (3, 1), (4, 1), (5, 1), (6, 1), (7, 1), (8, 1), (9, 1), (10, 1)], 11, 48, [.int .u64 0, .int .u64 0, .int .u32 0, .int .u8 0, .int .u8 0, .int .u8 0, .int .u8 0, .nilFunc, .pointer none, .int .i32 0, .int .i32 0]⟩ := by kernel_rfl
theorem ti71 : tiOf Try.prog 71 = some ⟨.struct [(0, 1), (1, 1), (2, 1), (3, 1), (4, 1), (5, 1), (6, 1), (7, 1), (8, 1), (9, 1), (10, 1)], 11, 48, [.int .u64 0, .int .u64 0, .int .u32 0, .int .u8 0, .int .u8 0, .int .u8 0, .int .u8 0, .nilFunc, .pointer none, .int .i32 0, .int .i32 0]⟩ := by kernel_rfl
def ttL : List (Nat × TI) := [
 (1, ⟨.other, 1, 8, [.nilFunc]⟩),
 (2, ⟨.int .i64, 1, 8, [.int .i64 0]⟩),
 (3, ⟨.int .i64, 1, 8, [.int .i64 0]⟩),
 (4, ⟨.bool, 1, 1, [.bool false]⟩),
 (5, ⟨.int .u8, 1, 1, [.int .u8 0]⟩),
 (6, ⟨.int .u8, 1, 1, [.int .u8 0]⟩),
 (7, ⟨.struct [(0, 1), (1, 1), (2, 1), (3, 1)], 4, 24, [.int .i64 0, .int .i64 0, .bool false, .int .u8 0]⟩),
 (8, ⟨.struct [(0, 1), (1, 1), (2, 1), (3, 1)], 4, 24, [.int .i64 0, .int .i64 0, .bool false, .int .u8 0]⟩),
 (9, ⟨.str, 1, 16, [.string ⟨#[]⟩]⟩),
 (10, ⟨.str, 1, 16, [.string ⟨#[]⟩]⟩),
 (11, ⟨.str, 1, 16, [.string ⟨#[]⟩]⟩),
 (12, ⟨.int .u64, 1, 8, [.int .u64 0]⟩),
 (13, ⟨.struct [(0, 1), (1, 1)], 2, 24, [.string ⟨#[]⟩, .int .u64 0]⟩),
 (14, ⟨.struct [(0, 1), (1, 1)], 2, 24, [.string ⟨#[]⟩, .int .u64 0]⟩),
 (15, ⟨.pointer 59, 1, 8, [.pointer none]⟩),
 (16, ⟨.pointer 62, 1, 8, [.pointer none]⟩),
 (17, ⟨.pointer 71, 1, 8, [.pointer none]⟩),
 (18, ⟨.struct [(0, 1)], 1, 8, [.pointer none]⟩),
 (19, ⟨.struct [(0, 1)], 1, 8, [.pointer none]⟩),
 (21, ⟨.int .i32, 1, 4, [.int .i32 0]⟩),
 (22, ⟨.slice 39, 1, 24, [.slice none 0 0]⟩),
 (23, ⟨.other, 1, 8, [.nilFunc]⟩),
 (24, ⟨.other, 1, 8, [.nilFunc]⟩),
 (25, ⟨.other, 1, 8, [.nilFunc]⟩),
 (26, ⟨.other, 1, 8, [.nilFunc]⟩),
 (27, ⟨.slice 3, 1, 24, [.slice none 0 0]⟩),
 (28, ⟨.other, 1, 8, [.nilFunc]⟩),
 (29, ⟨.other, 1, 8, [.nilFunc]⟩),
 (30, ⟨.int .u16, 1, 2, [.int .u16 0]⟩),
 (31, ⟨.other, 1, 8, [.nilFunc]⟩),
 (32, ⟨.pointer 27, 1, 8, [.pointer none]⟩),
 (33, ⟨.other, 1, 8, [.nilFunc]⟩),
 (34, ⟨.other, 1, 8, [.nilFunc]⟩),
 (35, ⟨.struct [(0, 1), (1, 1), (2, 1), (3, 1)], 4, 64, [.slice none 0 0, .slice none 0 0, .int .u16 0, .int .i64 0]⟩),
 (36, ⟨.struct [(0, 1), (1, 1), (2, 1), (3, 1)], 4, 64, [.slice none 0 0, .slice none 0 0, .int .u16 0, .int .i64 0]⟩),
 (37, ⟨.other, 1, 8, [.nilFunc]⟩),
 (38, ⟨.struct [(0, 1), (1, 1), (2, 1), (3, 1)], 4, 64, [.int .i64 0, .int .i64 0, .slice none 0 0, .slice none 0 0]⟩),
 (39, ⟨.struct [(0, 1), (1, 1), (2, 1), (3, 1)], 4, 64, [.int .i64 0, .int .i64 0, .slice none 0 0, .slice none 0 0]⟩),
 (40, ⟨.other, 1, 8, [.nilFunc]⟩),
 (41, ⟨.other, 1, 8, [.nilFunc]⟩),
 (42, ⟨.other, 1, 8, [.nilFunc]⟩),
 (43, ⟨.pointer 45, 1, 8, [.pointer none]⟩),
 (44, ⟨.struct [(0, 1), (1, 1), (2, 1), (3, 1)], 4, 48, [.int .i64 0, .int .i64 0, .int .i64 0, .slice none 0 0]⟩),
 (45, ⟨.struct [(0, 1), (1, 1), (2, 1), (3, 1)], 4, 48, [.int .i64 0, .int .i64 0, .int .i64 0, .slice none 0 0]⟩),
 (46, ⟨.other, 1, 8, [.nilFunc]⟩),
 (47, ⟨.other, 1, 8, [.nilFunc]⟩),
 (48, ⟨.other, 1, 8, [.nilFunc]⟩),
 (49, ⟨.other, 1, 8, [.nilFunc]⟩),
 (50, ⟨.other, 1, 8, [.nilFunc]⟩),
 (51, ⟨.slice 9, 1, 24, [.slice none 0 0]⟩),
 (52, ⟨.other, 1, 8, [.nilFunc]⟩),
 (53, ⟨.other, 1, 8, [.nilFunc]⟩),
 (54, ⟨.other, 1, 8, [.nilFunc]⟩),
 (55, ⟨.other, 1, 8, [.nilFunc]⟩),
 (56, ⟨.other, 1, 8, [.nilFunc]⟩),
 (57, ⟨.other, 1, 8, [.nilFunc]⟩),
 (58, ⟨.struct [(0, 1), (1, 1), (2, 1), (3, 1)], 4, 40, [.pointer none, .pointer none, .pointer none, .string ⟨#[]⟩]⟩),
 (59, ⟨.struct [(0, 1), (1, 1), (2, 1), (3, 1)], 4, 40, [.pointer none, .pointer none, .pointer none, .string ⟨#[]⟩]⟩),
 (60, ⟨.array 0 16, 0, 0, []⟩),
 (61, ⟨.struct [(0, 0)], 0, 0, []⟩),
 (62, ⟨.struct [(0, 0)], 0, 0, []⟩),
 (63, ⟨.int .u32, 1, 4, [.int .u32 0]⟩),
 (64, ⟨.int .u8, 1, 1, [.int .u8 0]⟩),
 (65, ⟨.int .u8, 1, 1, [.int .u8 0]⟩),
 (66, ⟨.other, 1, 8, [.nilFunc]⟩),
 (67, ⟨.pointer 5, 1, 8, [.pointer none]⟩),
 (68, ⟨.int .i32, 1, 4, [.int .i32 0]⟩),
 (69, ⟨.int .i32, 1, 4, [.int .i32 0]⟩),
 (70, ⟨.struct [(0, 1), (1, 1), (2, 1), (3, 1), (4, 1), (5, 1), (6, 1), (7, 1), (8, 1), (9, 1), (10, 1)], 11, 48, [.int .u64 0, .int .u64 0, .int .u32 0, .int .u8 0, .int .u8 0, .int .u8 0, .int .u8 0, .nilFunc, .pointer none, .int .i32 0, .int .i32 0]⟩),
 (71, ⟨.struct [(0, 1), (1, 1), (2, 1), (3, 1), (4, 1), (5, 1), (6, 1), (7, 1), (8, 1), (9, 1), (10, 1)], 11, 48, [.int .u64 0, .int .u64 0, .int .u32 0, .int .u8 0, .int .u8 0, .int .u8 0, .int .u8 0, .nilFunc, .pointer none, .int .i32 0, .int .i32 0]⟩)]
def tt : Nat → Option TI := lkT ttL
theorem tok : ∀ t ti, tt t = some ti → tiOf Try.prog t = some ti := lkT_ok Try.prog ttL ⟨ti1, ti2, ti3, ti4, ti5, ti6, ti7, ti8, ti9, ti10, ti11, ti12, ti13, ti14, ti15, ti16, ti17, ti18, ti19, ti21, ti22, ti23, ti24, ti25, ti26, ti27, ti28, ti29, ti30, ti31, ti32, ti33, ti34, ti35, ti36, ti37, ti38, ti39, ti40, ti41, ti42, ti43, ti44, ti45, ti46, ti47, ti48, ti49, ti50, ti51, ti52, ti53, ti54, ti55, ti56, ti57, ti58, ti59, ti60, ti61, ti62, ti63, ti64, ti65, ti66, ti67, ti68, ti69, ti70, ti71, trivial⟩
theorem hmix : Try.prog.follows .mixedOrders = true := by kernel_rfl
theorem goF {f : FuncId} {fn : Func} {code : Code} {args : List AV} {res : AV} (hf : Try.prog.funcs[f]? = some fn) (hcl : ∀ x, x ∈ args → Closed x) (h : ∀ (w0 : World) (st0 : Nat → Prop), awp ⟨Try.prog, tt, tok, fn.ntmps, w0, st0, fun _ => False, (none, false), RC.bare st0⟩ code ⟨frOf 0 args, [], 0⟩ (retA ⟨Try.prog, tt, tok, fn.ntmps, w0, st0, fun _ => False, (none, false), RC.bare st0⟩ fn.results res)) (hb : fn.body = some code := by exact rfl) (hn : (fn.name == "runtime.NumGoroutine") = false := by kernel_rfl) (hlen : Nat.ble args.length fn.ntmps = true := by kernel_rfl) : FnC Try.prog f args res := FnC.of_awp (T := tt) (ok := tok) hf hn hb hlen hcl h
theorem goA {p q : Prop} (n : q) (h : q → p := by first | exact awp_seq | exact awp_block | exact awp_rg hmix | exact fun h => ARun.o rfl h) : p := h n
theorem goN {p q : Prop} (n : q) (h : q → p := by first | exact awp_seq | exact awp_block) : p := h n
theorem goB {p q : Prop} (n : q) (h : q → p := by first | (first | refine fun h => ARun.f ?_ | refine fun h => awp_skip ?_ | refine fun h => awp_exit ?_); dsimp only [thenA, blockA, AS.bump, List.length_cons, List.length_nil, reduceIte, Nat.reduceEqDiff]; exact h | exact fun h => awp_cT rfl h | exact fun h => awp_cF rfl h | ((fail_if_success refine fun h => ARun.plain rfl ?_); first | exact fun h => ARun.kT rfl rfl rfl h | exact fun h => ARun.kF rfl rfl rfl h)) : p := h n
end Go.Proofs.Ytfphgelollhdhaa
