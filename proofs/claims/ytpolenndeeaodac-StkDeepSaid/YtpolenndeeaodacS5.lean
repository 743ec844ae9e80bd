/- stk: the words that always do the same. -/
import Derived.Test.YtpolenndeeaodacS4
namespace Go.Proofs.Ytpolenndeeaodac
set_option linter.unusedVariables false
set_option linter.unusedSimpArgs false
open Go Go.RowKit
set_option maxRecDepth 100000
attribute [local irreducible] Decidable.decide awp ARun regK toK

def nDUP : ByteArray := ⟨#[68, 85, 80]⟩
def nDROP : ByteArray := ⟨#[68, 82, 79, 80]⟩
def nSWAP : ByteArray := ⟨#[83, 87, 65, 80]⟩
def nOVER : ByteArray := ⟨#[79, 86, 69, 82]⟩
def nNIP : ByteArray := ⟨#[78, 73, 80]⟩
def nTUCK : ByteArray := ⟨#[84, 85, 67, 75]⟩
def nROT : ByteArray := ⟨#[82, 79, 84]⟩
def nROTR : ByteArray := ⟨#[45, 82, 79, 84]⟩
def nDUP2 : ByteArray := ⟨#[50, 68, 85, 80]⟩
def nDROP2 : ByteArray := ⟨#[50, 68, 82, 79, 80]⟩
def nSWAP2 : ByteArray := ⟨#[50, 83, 87, 65, 80]⟩
def nOVER2 : ByteArray := ⟨#[50, 79, 86, 69, 82]⟩
def nDEPTH : ByteArray := ⟨#[68, 69, 80, 84, 72]⟩
def nPICK : ByteArray := ⟨#[80, 73, 67, 75]⟩
def nROLL : ByteArray := ⟨#[82, 79, 76, 76]⟩
def nQDUP : ByteArray := ⟨#[63, 68, 85, 80]⟩
/-- Names, how many cells each takes, and what it leaves. -/
def shW : List (ByteArray × Int × ByteArray) := [(nDUP, 1, ⟨#[97, 97]⟩), (nDROP, 1, ⟨#[]⟩), (nSWAP, 2, ⟨#[98, 97]⟩), (nOVER, 2, ⟨#[97, 98, 97]⟩), (nNIP, 2, ⟨#[98]⟩), (nTUCK, 2, ⟨#[98, 97, 98]⟩), (nROT, 3, ⟨#[98, 99, 97]⟩), (nROTR, 3, ⟨#[99, 97, 98]⟩), (nDUP2, 2, ⟨#[97, 98, 97, 98]⟩), (nDROP2, 2, ⟨#[]⟩), (nSWAP2, 4, ⟨#[99, 100, 97, 98]⟩), (nOVER2, 4, ⟨#[97, 98, 99, 100, 97, 98]⟩)]
def shK : List Value := shW.map fun w => .string w.1
def shV : List AV := shW.map fun w => .agg [.val (.int .i64 w.2.1), .val (.string w.2.2)]
theorem closed_shV : ∀ x, x ∈ shV → Closed x := fun x hx => by
  obtain ⟨w, _, rfl⟩ := List.mem_map.1 hx
  exact .agg (closedL_cons (.val _) (closedL_cons (.val _) closedL_nil))
theorem shapes_c : FnC Try.prog 21 [] (.mp shK shV) := by
  refine FnC.of_awp (T := tt) (ok := tok) Try.func21 (by kernel_rfl) rfl (by kernel_rfl) closedL_nil (fun w0 st0 => ?_)
  dsimp only [frOf]
  (repeat' (first | refine awp_seq ?_ | refine awp_block ?_ | refine awp_region (fun _ => hmix) ?_ | refine ARun.op rfl (by first | exact True.intro | exact rfl | (unfold inR; omega) | omega | (unfold inR; simp only [List.length_map, List.length_append, List.length_take, List.length_drop, List.length_cons, List.length_nil] at *; omega)) ?_ | refine ARun.makeMap rfl (guardF_spec rfl) ?_ | refine ARun.insert rfl rfl rfl rfl rfl rfl rfl Try.underlying9 rfl (by kernel_rfl) (guardF_spec rfl) ?_ | (refine ARun.fin (by first | (intro h; cases h; done) | (intro _; kernel_rfl)) ?_; dsimp only [thenA, blockA, AS.bump, List.length_cons, List.length_nil, reduceIte, Nat.reduceEqDiff]) | (refine awp_skip ?_; dsimp only [thenA, blockA, AS.bump, List.length_cons, List.length_nil, reduceIte, Nat.reduceEqDiff]) | (refine awp_exit ?_; dsimp only [thenA, blockA, AS.bump, List.length_cons, List.length_nil, reduceIte, Nat.reduceEqDiff]) | refine awp_condT rfl (by first | rfl | assumption) ?_ | refine awp_condF rfl (by first | rfl | assumption) ?_ | ((fail_if_success refine ARun.plain rfl ?_); first | refine ARun.knowT rfl rfl rfl (by first | rfl | assumption) ?_ | refine ARun.knowF rfl rfl rfl (by first | rfl | assumption) ?_ | refine ARun.fork rfl rfl rfl (fun h => ?_) (fun h => ?_)) | refine awp_cond rfl (fun h => ?_) (fun h => ?_)))
  refine awp_ret ⟨_, ResL.cons (ResA.tmp (.made (ks := shK) (vs := shV) rfl rfl closed_shV)) .nil, rfl⟩
end Go.Proofs.Ytpolenndeeaodac
